/- The types of the language as plain data; what the layer computes, as plain functions. -/
import Derived.Test.YtkpijfgananjjaaDoorGc
import Derived.Lib.Join
import Derived.Lib.ItoaNum
set_option linter.unusedVariables false
set_option linter.unusedSimpArgs false
namespace Go.Proofs.YtkpijfgananjjaaDoor.Ga

/-! ### Types -/
inductive Ty where
  | mk (v : Int) (s : List UInt8) (l : List Ty)

mutual
def Ty.a : Ty → A
  | .mk v s l => .agg [.int .i64 v, .str s, .sl .no 3 (Ty.as l)]
def Ty.as : List Ty → List A
  | [] => []
  | t :: r => t.a :: Ty.as r
end
theorem Ty.as_map (l : List Ty) : Ty.as l = l.map Ty.a := by
  induction l with
  | nil => rfl
  | cons t r ih => simp only [Ty.as, List.map_cons, ih]
theorem Ty.a_mk (v : Int) (s : List UInt8) (l : List Ty) : (Ty.mk v s l).a = .agg [.int .i64 v, .str s, .sl .no 3 (l.map Ty.a)] := by rw [Ty.a, Ty.as_map]

theorem Ty.a_mk' (v : Int) (s : List UInt8) (l : List Ty) : (Ty.mk v s l).a = .agg [.int .i64 v, .str s, .sl .no 3 (Ty.as l)] := rfl
theorem Ty.ind {C : Ty → Prop} (h : ∀ v s l, (∀ x ∈ l, C x) → C (.mk v s l)) : ∀ t, C t := fun t =>
  Ty.rec (motive_1 := C) (motive_2 := fun l => ∀ x ∈ l, C x) (fun v s l ih => h v s l ih) (fun x hx => by cases hx) (fun t r h1 h2 x hx => by
    rcases List.mem_cons.1 hx with rfl | hx
    · exact h1
    · exact h2 x hx) t

theorem Ty.cells (t : Ty) : t.a.cells.length = 3 ∧ scalars t.a.cells = true := by
  cases t with
  | mk v s l => rw [Ty.a_mk]; exact ⟨rfl, rfl⟩

theorem Ty.str (n : Nat) : ∀ t : Ty, Str n t.a t.a := Ty.ind fun v s l ih => by
  rw [Ty.a_mk]
  refine .agg _ _ rfl (fun j c c' h h' => ?_)
  rw [h] at h'
  injection h' with h'
  subst h'
  match j with
  | 0 => injection h with h; subst h; exact .int _ _
  | 1 => injection h with h; subst h; exact .str _
  | 2 =>
    injection h with h
    subst h
    refine .sl _ _ _ _ _ (.inl rfl) rfl (fun i a a' q q' => ?_)
    rw [q] at q'
    injection q' with q'
    subst q'
    rw [List.getElem?_map] at q
    cases hq : l[i]? with
    | none => rw [hq] at q; cases q
    | some t => rw [hq] at q; injection q with q; subst q; exact ih t (List.mem_of_getElem? hq)
  | j + 3 => cases h

/-- A type that has been built is one. -/
theorem Ty.le_sl (v : Int) (s : List UInt8) (o : Own) (l : List Ty) : Le (.agg [.int .i64 v, .str s, .sl o 3 (Ty.as l)]) (Ty.mk v s l).a := by
  rw [Ty.a_mk']; exact Le.agg3 (Le.refl _) (Le.refl _) (Le.own _ _ _)
theorem Ty.le_nils (v : Int) (s : List UInt8) : Le (.agg [.int .i64 v, .str s, .nils]) (Ty.mk v s []).a := by
  rw [Ty.a_mk]; exact Le.agg3 (Le.refl _) (Le.refl _) (Le.nils _)

/-! How many nodes. -/
mutual
def Ty.nn : Ty → Nat
  | .mk _ _ l => Ty.nns l + 1
def Ty.nns : List Ty → Nat
  | [] => 0
  | t :: r => t.nn + Ty.nns r
end
theorem Ty.nns_mem {x : Ty} : ∀ {l : List Ty}, x ∈ l → x.nn ≤ Ty.nns l
  | t :: r, h => by
    rcases List.mem_cons.1 h with rfl | h
    · simp only [Ty.nns]; omega
    · have := Ty.nns_mem h; simp only [Ty.nns]; omega
theorem Ty.nn_pos : ∀ t : Ty, 1 ≤ t.nn
  | .mk _ _ _ => by simp only [Ty.nn]; omega
theorem Ty.nns_len : ∀ l : List Ty, l.length ≤ Ty.nns l
  | [] => Nat.le_refl _
  | t :: r => by have := Ty.nns_len r; have := t.nn_pos; simp only [Ty.nns, List.length_cons]; omega
theorem Ty.nn_len {v : Int} {s : List UInt8} {l : List Ty} {N : Nat} (h : (Ty.mk v s l).nn ≤ N) : l.length < N := by
  have := Ty.nns_len l; simp only [Ty.nn] at h; omega
theorem Ty.nn_mem {v : Int} {s : List UInt8} {l : List Ty} {x : Ty} {N : Nat} (h : (Ty.mk v s l).nn ≤ N) (hx : x ∈ l) : x.nn ≤ N := by
  have := Ty.nns_mem hx; simp only [Ty.nn] at h; omega

/-! What fits: texts are not too long, numbers of 64 bits. -/
mutual
def Ty.fit (B : Nat) : Ty → Prop
  | .mk v s l => -9223372036854775808 ≤ v ∧ v < 9223372036854775808 ∧ s.length ≤ B ∧ Ty.fits B l
def Ty.fits (B : Nat) : List Ty → Prop
  | [] => True
  | t :: r => t.fit B ∧ Ty.fits B r
end
theorem Ty.fits_mem {B : Nat} {x : Ty} : ∀ {l : List Ty}, Ty.fits B l → x ∈ l → x.fit B
  | t :: r, h, hx => by
    simp only [Ty.fits] at h
    rcases List.mem_cons.1 hx with rfl | hx
    · exact h.1
    · exact Ty.fits_mem h.2 hx

theorem at_ty {l : List Ty} {j : Nat} {v : Int} {s : List UInt8} {q : List Ty} (h : l[j]? = some (.mk v s q)) : (Ty.as l)[(j : Int).toNat]? = some (.agg [.int .i64 v, .str s, .sl .no 3 (Ty.as q)]) := by
  show (Ty.as l)[j]? = _
  rw [Ty.as_map, List.getElem?_map, h, Option.map_some, Ty.a_mk']
theorem len_as (l : List Ty) : (Ty.as l).length = l.length := by rw [Ty.as_map, List.length_map]
theorem lt_ty {l : List Ty} {j : Nat} (h : j < l.length) : decide ((j : Int) < ((Ty.as l).length : Int)) = true := by
  rw [len_as]; exact decide_eq_true (by omega)
theorem ge_ty {l : List Ty} {j : Nat} (h : ¬ j < l.length) : decide ((j : Int) < ((Ty.as l).length : Int)) = false := by
  rw [len_as]; exact decide_eq_false (by omega)
theorem drop_at {α : Type} {l : List α} {j : Nat} {x : α} (h : l[j]? = some x) : l.drop j = x :: l.drop (j + 1) := by
  obtain ⟨h1, h2⟩ := List.getElem?_eq_some_iff.1 h
  rw [List.drop_eq_getElem_cons h1, h2]
theorem drop_end {α : Type} {l : List α} {j : Nat} (h : ¬ j < l.length) : l.drop j = [] := List.drop_eq_nil_of_le (by omega)

/-! ### What the layer computes -/
mutual
def mayP : Ty → Bool
  | .mk v s l => if v = 0 then maysP l && s != [] else decide (0 < v) && s == [] && l.isEmpty
def maysP : List Ty → Bool
  | [] => true
  | t :: r => mayP t && maysP r
end
mutual
def sizeP : Ty → Int → Int
  | .mk _ _ l, most => sizesP l most 1
def sizesP : List Ty → Int → Int → Int
  | [], _, n => n
  | t :: r, most, n => if most < n then n else sizesP r most (n + sizeP t (most - n))
end
mutual
def sameP : Ty → Ty → Bool
  | .mk v s l, .mk v' s' l' => v == v' && s == s' && sameL l l'
def sameL : List Ty → List Ty → Bool
  | [], [] => true
  | t :: r, t' :: r' => sameP t t' && sameL r r'
  | _, _ => false
end
mutual
def textP : Ty → List UInt8
  | .mk v s l => if v = 0 then (match textsP l with
    | [] => s
    | [x] => 40 :: (x ++ 32 :: (s ++ [41]))
    | x :: y :: r => 40 :: (Lib.join (x :: y :: r) (32 :: (s ++ [32])) ++ [41])) else 39 :: Lib.itoa v
def textsP : List Ty → List (List UInt8)
  | [] => []
  | t :: r => textP t :: textsP r
end
theorem textsP_map (l : List Ty) : textsP l = l.map textP := by
  induction l with
  | nil => rfl
  | cons t r ih => simp only [textsP, List.map_cons, ih]

/-- Numbers of variables, by their names. -/
def numOf' (names : List (Int × Int)) (v : Int) : List (Int × Int) × Int := match names.lookup v with
  | some k => (names, k)
  | none => (names ++ [(v, (names.length : Int) + 1)], (names.length : Int) + 1)
mutual
def canonP : Ty → List (Int × Int) → List (Int × Int) × Ty
  | .mk v s l, names =>
    if 0 < v then let q := numOf' names v; let p := canonsP l q.1; (p.1, .mk q.2 s p.2)
    else let p := canonsP l names; (p.1, .mk 0 s p.2)
def canonsP : List Ty → List (Int × Int) → List (Int × Int) × List Ty
  | [], names => (names, [])
  | t :: r, names => let p := canonP t names; let q := canonsP r p.1; (q.1, p.2 :: q.2)
end

theorem sameP_refl : ∀ t : Ty, sameP t t = true := Ty.ind fun v s l ih => by
  simp only [sameP, beq_self_eq_true, Bool.true_and]
  induction l with
  | nil => rfl
  | cons t r h => simp only [sameL, ih t (List.mem_cons_self ..), Bool.true_and]; exact h (fun x hx => ih x (List.mem_cons_of_mem _ hx))

theorem sizeP_bound : ∀ (t : Ty) (most : Int), 0 ≤ most → 1 ≤ sizeP t most ∧ sizeP t most ≤ most + 1 := Ty.ind fun v s l ih most hm => by
  simp only [sizeP]
  have go : ∀ (r : List Ty) (n : Int), (∀ x ∈ r, x ∈ l) → 1 ≤ n → n ≤ most + 1 → 1 ≤ sizesP r most n ∧ sizesP r most n ≤ most + 1 := by
    intro r
    induction r with
    | nil => intro n _ h1 h2; exact ⟨h1, h2⟩
    | cons t r h =>
      intro n hr h1 h2
      simp only [sizesP]
      split
      · exact ⟨h1, h2⟩
      · have := ih t (hr t (List.mem_cons_self ..)) (most - n) (by omega)
        exact h _ (fun x hx => hr x (List.mem_cons_of_mem _ hx)) (by omega) (by omega)
  exact go l 1 (fun _ h => h) (by omega) (by omega)
end Go.Proofs.YtkpijfgananjjaaDoor.Ga
