/- Tokens that may be written: lex.Lex's answer as the caller's own; 'same' of such ones. -/
import Derived.Test.YtjeccchbeflddaaDoorGa15
import Derived.Test.YtjeccchbeflddaaDoorLa13
import Derived.Test.YtjeccchbeflddaaDoorLq1
set_option linter.unusedVariables false
set_option linter.unusedSimpArgs false
namespace Go.Proofs.YtjeccchbeflddaaDoor.Ga
open Lx

theorem tk_cons (t : Tk) (l : List Tk) : flat ((t :: l).map tkA) = A.int .i64 t.1 :: A.int .i64 t.2.1 :: A.int .i64 t.2.2.1 :: A.str t.2.2.2 :: flat (l.map tkA) := rfl
theorem tk_flen (l : List Tk) : (flat (l.map tkA)).length = 4 * l.length := by
  induction l with
  | nil => rfl
  | cons t l ih => rw [tk_cons]; simp only [List.length_cons, ih]; omega
theorem tk_plain (l : List Tk) : ∀ c ∈ flat (l.map tkA), Plain c := by
  induction l with
  | nil => intro c hc; cases hc
  | cons t l ih =>
    intro c hc
    rw [tk_cons] at hc
    simp only [List.mem_cons] at hc
    rcases hc with rfl | rfl | rfl | rfl | hc
    · exact .int _ _
    · exact .int _ _
    · exact .int _ _
    · exact .str _
    · exact ih c hc
theorem tk_at : ∀ (l : List Tk) (i : Nat) (t : Tk), l[i]? = some t → (flat (l.map tkA)).drop (i * 4) = A.int .i64 t.1 :: A.int .i64 t.2.1 :: A.int .i64 t.2.2.1 :: A.str t.2.2.2 :: flat ((l.drop (i + 1)).map tkA)
  | [], i, t, h => by simp at h
  | u :: l, 0, t, h => by simp at h; subst h; rfl
  | u :: l, i + 1, t, h => by
    have := tk_at l i t (by simpa using h)
    rw [tk_cons, Nat.add_mul, show i * 4 + 1 * 4 = i * 4 + 4 from rfl]
    exact this
theorem tk_get1 {l : List Tk} {i : Nat} {t : Tk} (h : l[i]? = some t) : (flat (l.map tkA))[0 + (i : Int).toNat * 4 + 1]? = some (.int .i64 t.2.1) := by
  show (flat (l.map tkA))[0 + i * 4 + 1]? = _
  rw [Nat.zero_add, ← List.getElem?_drop, tk_at l i t h]
  rfl
theorem tk_get4 {l : List Tk} {i : Nat} {t : Tk} (h : l[i]? = some t) : ((flat (l.map tkA)).drop (0 + (i : Int).toNat * 4)).take 4 = [.int .i64 t.1, .int .i64 t.2.1, .int .i64 t.2.2.1, .str t.2.2.2] := by
  show ((flat (l.map tkA)).drop (0 + i * 4)).take 4 = _
  rw [Nat.zero_add, tk_at l i t h]
  rfl
theorem tk_set1 : ∀ (l : List Tk) (i : Nat) (t : Tk) (v : Nat), l[i]? = some t → (flat (l.map tkA)).set (i * 4 + 1) (.int .i64 v) = flat ((l.set i (t.1, v, t.2.2)).map tkA)
  | [], i, t, v, h => by simp at h
  | u :: l, 0, t, v, h => by simp at h; subst h; rfl
  | u :: l, i + 1, t, v, h => by
    have := tk_set1 l i t v (by simpa using h)
    rw [List.set_cons_succ, tk_cons, tk_cons, ← this, show (i + 1) * 4 + 1 = i * 4 + 1 + 4 by omega]
    rfl
theorem tk_set {l : List Tk} {i : Nat} {t : Tk} (v : Nat) (h : l[i]? = some t) : setL (flat (l.map tkA)) (0 + (i : Int).toNat * 4 + 1) [.int .i64 v] = flat ((l.set i (t.1, v, t.2.2)).map tkA) := by
  show (flat (l.map tkA)).set (0 + i * 4 + 1) (.int .i64 v) = _
  rw [Nat.zero_add]
  exact tk_set1 l i t v h

/-- lex.Lex's tokens, the caller's own. -/
theorem lex_own (s : List UInt8) (ts : List Tk) (hs : ¬ 4096 < s.length) (h : lexAll s = .ok ts) (σ : St) (hB : B0 σ.base) : ACalls Tryd.prog 14 [.str s] σ Non
    (fun e σ' => σ' = σ.new (.cells (flat ((ts ++ [endTk s]).map tkA))) ∧ e = .ret (.tup [.os σ.n 0 (ts ++ [endTk s]).length 4, .int .i64 0, .int .i64 0])) := by
  have h0 := ((lex_raw s σ hB).frame (m' := fun _ _ => False) fun id off hid hm => absurd hm (by omega))
  have h1 := ACalls.own (sz := 4) (xs := (ts ++ [endTk s]).map tkA) (a1 := .int .i64 0) (a2 := .int .i64 0) h0 (fun e σ' hR => by
    unfold LexR at hR
    rcases hR with ⟨q, _⟩ | ⟨_, q⟩
    · exact absurd q hs
    · rw [h] at q
      obtain ⟨t, ht, rfl⟩ := q
      exact ⟨t, ht, by rw [List.map_append]; rfl⟩) (by intro q; have := congrArg List.length q; rw [tk_flen] at this; simp at this) (tk_plain _) (.int _ _) (.int _ _)
  rw [List.length_map] at h1
  exact h1

section
attribute [local irreducible] Bc ACallsW ALoop Fin St.set St.new Dc
theorem same_os (id : Nat) (o' : Own) (l l' : List Tk) (hl : l.length < 4611686018427387904) (σ : St) (ho : σ.obj id = .cells (flat (l.map tkA))) (m) : ACalls Tryd.prog 15 [.os id 0 l.length 4, .sl o' 4 (l'.map tkA)] σ m (fun e σ' => σ' = σ ∧ e = .ret (.bool (decide (l = l')))) := by
  refine acalls_go mixed Tryd.func15 c_same_ok (Nat.le_of_ble_eq_true rfl) ?_
  by_cases hlen : l.length = l'.length
  · have g1 : ((l.length : Int) != ((l'.map tkA).length : Int)) = false := by simp [hlen]
    conv => whnf
    repeat' (first
      | (refine Bc_t ?_; conv => whnf) | (refine Bc_f ?_; conv => whnf) | (rw [g1]; conv => whnf) | (rw [g2]; conv => whnf) | (rw [g3]; conv => whnf) | (rw [g4]; conv => whnf)
      | (rw [g5]; conv => whnf) | (rw [g6]; conv => whnf) | (rw [g7]; conv => whnf) | (rw [hr]; conv => whnf)
      | (refine And.intro (by first | omega | assumption | (simp only [St.set_n, St.new_n] at *; omega) | (simp; done) | (simp; omega) | (intro _ _; first | assumption | (simp only [St.set_n, St.new_n] at *; omega)) | (intro _; exact trivial) | (intro _; intro _ _; exact trivial) | (intro _; intro j hj; rfl)) ?_; conv => whnf)
      | (refine Dc.mk (by first | rfl | assumption | exact Nat.le_refl _ | exact Nat.le_of_ble_eq_true rfl | omega | (simp; done)) ?_; conv => whnf)
      | (rw [St.set_same]; conv => whnf) | (rw [St.new_same]; conv => whnf)
      | (rw [St.set_ne _ _ (by first | assumption | omega | (simp only [St.set_n, St.new_n] at *; omega))]; conv => whnf)
      | (rw [St.new_ne _ _ (by first | assumption | omega | (simp only [St.set_n, St.new_n] at *; omega))]; conv => whnf))
    unfold ALoop
    refine ⟨fun k env σ1 => ∃ i : Nat, k = l.length - i ∧ i ≤ l.length ∧ l.take i = l'.take i ∧ σ1 = σ ∧
        env = [(0, .os id 0 l.length 4), (1, .sl o' 4 (l'.map tkA)), (12, .int .i64 l.length), (13, .int .i64 i)], _,
      [(0, .os id 0 l.length 4), (1, .sl o' 4 (l'.map tkA)), (12, .int .i64 l.length), (13, .int .i64 0)], ⟨rfl, rfl, rfl, rfl, trivial⟩, ⟨0, rfl, by omega, rfl, rfl, rfl⟩, ?_⟩
    rintro k env σ1 ⟨i, rfl, hi, htk, rfl, rfl⟩
    by_cases hlt : i < l.length
    · obtain ⟨t, ht⟩ : ∃ t, l[i]? = some t := ⟨_, List.getElem?_eq_getElem hlt⟩
      obtain ⟨u, hu⟩ : ∃ u, l'[i]? = some u := ⟨_, List.getElem?_eq_getElem (by omega)⟩
      have g1 := tk_get4 ht
      have g2 : (l'.map tkA)[(i : Int).toNat]? = some (tkA u) := by show (l'.map tkA)[i]? = _; rw [List.getElem?_map, hu]; rfl
      have g3 : decide ((i : Int) < l.length) = true := by simp; omega
      have g4 := same_at t u
      have hle : 0 + (i : Int).toNat * 4 + 4 ≤ (flat (l.map tkA)).length := by rw [tk_flen]; show 0 + i * 4 + 4 ≤ _; omega
      have hr := ho
      by_cases he : t = u
      · have g5 : (!(t == u)) = false := by rw [beq_iff_eq.2 he]; rfl
        conv => whnf
        repeat' (first
          | (refine Bc_t ?_; conv => whnf) | (refine Bc_f ?_; conv => whnf) | (rw [g1]; conv => whnf) | (rw [g2]; conv => whnf) | (rw [g3]; conv => whnf) | (rw [g4]; conv => whnf)
          | (rw [g5]; conv => whnf) | (rw [g6]; conv => whnf) | (rw [g7]; conv => whnf) | (rw [hr]; conv => whnf)
          | (refine And.intro (by first | omega | assumption | (simp only [St.set_n, St.new_n] at *; omega) | (simp; done) | (simp; omega) | (intro _ _; first | assumption | (simp only [St.set_n, St.new_n] at *; omega)) | (intro _; exact trivial) | (intro _; intro _ _; exact trivial) | (intro _; intro j hj; rfl)) ?_; conv => whnf)
          | (refine Dc.mk (by first | rfl | assumption | exact Nat.le_refl _ | exact Nat.le_of_ble_eq_true rfl | omega | (simp; done)) ?_; conv => whnf)
          | (rw [St.set_same]; conv => whnf) | (rw [St.new_same]; conv => whnf)
          | (rw [St.set_ne _ _ (by first | assumption | omega | (simp only [St.set_n, St.new_n] at *; omega))]; conv => whnf)
          | (rw [St.new_ne _ _ (by first | assumption | omega | (simp only [St.set_n, St.new_n] at *; omega))]; conv => whnf))
        refine ⟨_, [(0, .os id 0 l.length 4), (1, .sl o' 4 (l'.map tkA)), (12, .int .i64 l.length), (13, .int .i64 (i + 1 : Nat))], ?_, ⟨rfl, rfl, rfl, int_eq (by rw [w64 (by omega) (by omega)]; omega), trivial⟩, i + 1, rfl, by omega, ?_, rfl, rfl⟩
        · omega
        · rw [List.take_add_one, List.take_add_one, ht, hu, htk, he]
      · have g5 : (!(t == u)) = true := by rw [beq_eq_false_iff_ne.2 he]; rfl
        conv => whnf
        repeat' (first
          | (refine Bc_t ?_; conv => whnf) | (refine Bc_f ?_; conv => whnf) | (rw [g1]; conv => whnf) | (rw [g2]; conv => whnf) | (rw [g3]; conv => whnf) | (rw [g4]; conv => whnf)
          | (rw [g5]; conv => whnf) | (rw [g6]; conv => whnf) | (rw [g7]; conv => whnf) | (rw [hr]; conv => whnf)
          | (refine And.intro (by first | omega | assumption | (simp only [St.set_n, St.new_n] at *; omega) | (simp; done) | (simp; omega) | (intro _ _; first | assumption | (simp only [St.set_n, St.new_n] at *; omega)) | (intro _; exact trivial) | (intro _; intro _ _; exact trivial) | (intro _; intro j hj; rfl)) ?_; conv => whnf)
          | (refine Dc.mk (by first | rfl | assumption | exact Nat.le_refl _ | exact Nat.le_of_ble_eq_true rfl | omega | (simp; done)) ?_; conv => whnf)
          | (rw [St.set_same]; conv => whnf) | (rw [St.new_same]; conv => whnf)
          | (rw [St.set_ne _ _ (by first | assumption | omega | (simp only [St.set_n, St.new_n] at *; omega))]; conv => whnf)
          | (rw [St.new_ne _ _ (by first | assumption | omega | (simp only [St.set_n, St.new_n] at *; omega))]; conv => whnf))
        refine Fin.of ⟨rfl, ?_⟩
        have : l ≠ l' := by rintro rfl; rw [ht] at hu; exact he (Option.some.inj hu)
        rw [decide_eq_false this]
        rfl
    · obtain rfl : i = l.length := by omega
      have g1 : decide ((l.length : Int) < l.length) = false := by simp
      conv => whnf
      repeat' (first
        | (refine Bc_t ?_; conv => whnf) | (refine Bc_f ?_; conv => whnf) | (rw [g1]; conv => whnf) | (rw [g2]; conv => whnf) | (rw [g3]; conv => whnf) | (rw [g4]; conv => whnf)
        | (rw [g5]; conv => whnf) | (rw [g6]; conv => whnf) | (rw [g7]; conv => whnf) | (rw [hr]; conv => whnf)
        | (refine And.intro (by first | omega | assumption | (simp only [St.set_n, St.new_n] at *; omega) | (simp; done) | (simp; omega) | (intro _ _; first | assumption | (simp only [St.set_n, St.new_n] at *; omega)) | (intro _; exact trivial) | (intro _; intro _ _; exact trivial) | (intro _; intro j hj; rfl)) ?_; conv => whnf)
        | (refine Dc.mk (by first | rfl | assumption | exact Nat.le_refl _ | exact Nat.le_of_ble_eq_true rfl | omega | (simp; done)) ?_; conv => whnf)
        | (rw [St.set_same]; conv => whnf) | (rw [St.new_same]; conv => whnf)
        | (rw [St.set_ne _ _ (by first | assumption | omega | (simp only [St.set_n, St.new_n] at *; omega))]; conv => whnf)
        | (rw [St.new_ne _ _ (by first | assumption | omega | (simp only [St.set_n, St.new_n] at *; omega))]; conv => whnf))
      refine Fin.of ⟨rfl, ?_⟩
      rw [List.take_length, hlen, List.take_length] at htk
      rw [decide_eq_true htk]
      rfl
  · have g1 : ((l.length : Int) != ((l'.map tkA).length : Int)) = true := by simp; omega
    conv => whnf
    repeat' (first
      | (refine Bc_t ?_; conv => whnf) | (refine Bc_f ?_; conv => whnf) | (rw [g1]; conv => whnf) | (rw [g2]; conv => whnf) | (rw [g3]; conv => whnf) | (rw [g4]; conv => whnf)
      | (rw [g5]; conv => whnf) | (rw [g6]; conv => whnf) | (rw [g7]; conv => whnf) | (rw [hr]; conv => whnf)
      | (refine And.intro (by first | omega | assumption | (simp only [St.set_n, St.new_n] at *; omega) | (simp; done) | (simp; omega) | (intro _ _; first | assumption | (simp only [St.set_n, St.new_n] at *; omega)) | (intro _; exact trivial) | (intro _; intro _ _; exact trivial) | (intro _; intro j hj; rfl)) ?_; conv => whnf)
      | (refine Dc.mk (by first | rfl | assumption | exact Nat.le_refl _ | exact Nat.le_of_ble_eq_true rfl | omega | (simp; done)) ?_; conv => whnf)
      | (rw [St.set_same]; conv => whnf) | (rw [St.new_same]; conv => whnf)
      | (rw [St.set_ne _ _ (by first | assumption | omega | (simp only [St.set_n, St.new_n] at *; omega))]; conv => whnf)
      | (rw [St.new_ne _ _ (by first | assumption | omega | (simp only [St.set_n, St.new_n] at *; omega))]; conv => whnf))
    refine Fin.of ⟨rfl, ?_⟩
    rw [decide_eq_false (fun q => hlen (by rw [q]))]
    rfl
end
end Go.Proofs.YtjeccchbeflddaaDoor.Ga
