/- LexBack: the walk. -/
import Derived.Test.YtjeccchbeflddaaDoorLq6
set_option linter.unusedVariables false
set_option linter.unusedSimpArgs false
namespace Go.Proofs.YtjeccchbeflddaaDoor.Ga
open Lx

def c_back : SFun := ⟨74, (.seq (.reg [⟨(some 2), (.mov (.const (.bool false))), none⟩]) (.seq (.seq (.reg [⟨(some 12), (.call 9 []), none⟩, ⟨(some 13), (.un .not (.tmp 12)), none⟩]) (.cond (.tmp 13) (.seq (.reg [⟨(some 2), (.mov (.const (.bool false))), none⟩]) .ret) .skip)) (.seq (.reg [⟨(some 15), (.mov (.tmp 0)), none⟩, ⟨(some 16), (.call 14 [(.tmp 15)]), none⟩, ⟨(some 14), (.mov (.tmp 16)), none⟩, ⟨(some 17), (.extract (.tmp 14) 0), none⟩, ⟨(some 18), (.extract (.tmp 14) 1), none⟩, ⟨(some 19), (.extract (.tmp 14) 2), none⟩, ⟨(some 3), (.mov (.tmp 17)), none⟩, ⟨(some 4), (.mov (.tmp 18)), none⟩, ⟨(some 5), (.mov (.tmp 19)), none⟩]) (.seq (.seq (.reg [⟨(some 20), (.mov (.tmp 4)), none⟩, ⟨(some 21), (.bin .neq .none (.tmp 20) (.const (.int .i64 0))), none⟩]) (.cond (.tmp 21) (.seq (.reg [⟨(some 2), (.mov (.const (.bool true))), none⟩]) .ret) .skip)) (.seq (.reg [⟨(some 6), (.mov (.const (.str []))), none⟩]) (.seq (.seq (.reg [⟨(some 22), (.mov (.tmp 3)), none⟩, ⟨(some 23), (.len .sl (.tmp 22)), none⟩, ⟨(some 24), (.mov (.const (.int .i64 0))), none⟩]) (.block 0 (.loop (.seq (.reg [⟨(some 25), (.bin .lss .none (.tmp 24) (.tmp 23)), none⟩]) (.seq (.cond (.tmp 25) .skip (.exit 0)) (.seq (.block 1 (.seq (.reg [⟨(some 26), (.mov (.tmp 24)), none⟩, ⟨(some 7), (.mov (.tmp 26)), none⟩]) (.reg [⟨(some 27), (.mov (.tmp 6)), none⟩, ⟨(some 28), (.mov (.tmp 3)), none⟩, ⟨(some 29), (.mov (.tmp 7)), none⟩, ⟨(some 30), (.idxAddr 4 (.tmp 28) (.tmp 29)), none⟩, ⟨(some 31), (.load true 4 (.tmp 30)), none⟩, ⟨(some 32), (.call 12 [(.tmp 31)]), none⟩, ⟨(some 33), (.bin .add .none (.tmp 32) (.const (.str [32]))), none⟩, ⟨(some 34), (.bin .add .none (.tmp 27) (.tmp 33)), none⟩, ⟨(some 6), (.mov (.tmp 34)), none⟩]))) (.reg [⟨(some 35), (.bin .add .none (.tmp 24) (.const (.int .i64 1))), none⟩, ⟨(some 24), (.mov (.tmp 35)), none⟩]))))))) (.seq (.reg [⟨(some 37), (.mov (.tmp 6)), none⟩, ⟨(some 38), (.call 14 [(.tmp 37)]), none⟩, ⟨(some 36), (.mov (.tmp 38)), none⟩, ⟨(some 39), (.extract (.tmp 36) 0), none⟩, ⟨(some 40), (.extract (.tmp 36) 1), none⟩, ⟨(some 41), (.extract (.tmp 36) 2), none⟩, ⟨(some 8), (.mov (.tmp 39)), none⟩, ⟨(some 9), (.mov (.tmp 40)), none⟩, ⟨(some 10), (.mov (.tmp 41)), none⟩]) (.seq (.seq (.reg [⟨(some 42), (.mov (.tmp 9)), none⟩, ⟨(some 43), (.bin .neq .none (.tmp 42) (.const (.int .i64 0))), none⟩]) (.cond (.tmp 43) (.seq (.reg [⟨(some 44), (.mov (.tmp 9)), none⟩, ⟨(some 45), (.bin .eql .none (.tmp 44) (.const (.int .i64 4))), none⟩, ⟨(some 46), (.mov (.tmp 45)), none⟩, ⟨(some 47), (.mov (.tmp 6)), (some (46, true))⟩, ⟨(some 48), (.len .str (.tmp 47)), (some (46, true))⟩, ⟨(some 49), (.bin .gtr .none (.tmp 48) (.const (.int .i64 4096))), (some (46, true))⟩, ⟨(some 50), (.pick (.tmp 46) (.tmp 49) (.const (.bool false))), none⟩, ⟨(some 2), (.mov (.tmp 50)), none⟩]) .ret) .skip)) (.seq (.seq (.reg [⟨(some 51), (.mov (.tmp 8)), none⟩, ⟨(some 52), (.len .sl (.tmp 51)), none⟩, ⟨(some 53), (.mov (.tmp 3)), none⟩, ⟨(some 54), (.len .sl (.tmp 53)), none⟩, ⟨(some 55), (.bin .neq .none (.tmp 52) (.tmp 54)), none⟩]) (.cond (.tmp 55) (.seq (.reg [⟨(some 2), (.mov (.const (.bool false))), none⟩]) .ret) .skip)) (.seq (.seq (.reg [⟨(some 56), (.mov (.tmp 8)), none⟩, ⟨(some 57), (.len .sl (.tmp 56)), none⟩, ⟨(some 58), (.mov (.const (.int .i64 0))), none⟩]) (.block 2 (.loop (.seq (.reg [⟨(some 59), (.bin .lss .none (.tmp 58) (.tmp 57)), none⟩]) (.seq (.cond (.tmp 59) .skip (.exit 2)) (.seq (.block 3 (.seq (.reg [⟨(some 60), (.mov (.tmp 58)), none⟩, ⟨(some 11), (.mov (.tmp 60)), none⟩]) (.reg [⟨(some 61), (.mov (.tmp 8)), none⟩, ⟨(some 62), (.mov (.tmp 11)), none⟩, ⟨(some 63), (.mov (.tmp 3)), none⟩, ⟨(some 64), (.mov (.tmp 11)), none⟩, ⟨(some 65), (.idxAddr 4 (.tmp 63) (.tmp 64)), none⟩, ⟨(some 66), (.fieldAddr 1 (.tmp 65)), none⟩, ⟨(some 67), (.load false 1 (.tmp 66)), none⟩, ⟨(some 68), (.idxAddr 4 (.tmp 61) (.tmp 62)), none⟩, ⟨(some 69), (.fieldAddr 1 (.tmp 68)), none⟩, ⟨none, (.store 1 (.tmp 69) (.tmp 67)), none⟩]))) (.reg [⟨(some 70), (.bin .add .none (.tmp 58) (.const (.int .i64 1))), none⟩, ⟨(some 58), (.mov (.tmp 70)), none⟩]))))))) (.seq (.reg [⟨(some 71), (.mov (.tmp 8)), none⟩, ⟨(some 72), (.mov (.tmp 3)), none⟩, ⟨(some 73), (.call 15 [(.tmp 71), (.tmp 72)]), none⟩, ⟨(some 2), (.mov (.tmp 73)), none⟩]) .ret))))))))))), [(.tmp 2)]⟩
theorem c_back_ok : cFun Tryd.prog Tryd.f4 = some c_back := by kernel_rfl

theorem itoa_small (n : Nat) (h : n < 4611686018427387904) : (Lib.itoa (n : Int)).length ≤ 20 := by
  have key : ∀ (k u : Nat), u < 10 ^ (k + 1) → (Lib.decDigits u).length ≤ k + 1 := by
    intro k
    induction k with
    | zero => intro u hu; rw [Lib.decDigits, dif_pos (by simpa using hu)]; simp
    | succ k ih =>
      intro u hu
      by_cases hs : u < 10
      · rw [Lib.decDigits, dif_pos hs]; simp
      · rw [Lib.decDigits, dif_neg hs, List.length_append, List.length_singleton]
        have := ih (u / 10) (by rw [Nat.pow_succ] at hu; omega)
        omega
  unfold Lib.itoa
  rw [if_neg (by omega)]
  have := key 19 n (by
    have : (4611686018427387904 : Nat) < 10 ^ (19 + 1) := by decide
    omega)
  show (Lib.decDigits n).length ≤ 20
  exact this
theorem quote_len (S : List UInt8) : (quote S).length ≤ 4 * S.length + 2 := by
  have : (S.flatMap quoteB).length ≤ 4 * S.length := by
    induction S with
    | nil => simp
    | cons c r ih =>
      rw [List.flatMap_cons, List.length_append, List.length_cons]
      have := quoteB_len c
      omega
  unfold quote
  simp only [List.length_append, List.length_cons, List.length_nil]
  omega
theorem textOf_len (t : Tk) (hn : t.1 = 1 → t.2.2.1 < 4611686018427387904) (hS : t.2.2.2.length ≤ 4096) : (textOf t).length ≤ 20000 := by
  unfold textOf
  split
  · rename_i h; have := itoa_small t.2.2.1 (hn h); omega
  · split
    · have := quote_len t.2.2.2; omega
    · split
      · simp
      · omega

/-- A token read: its number is small, its text short. -/
theorem lexAll_small {s : List UInt8} {ts : List Tk} (h : lexAll s = .ok ts) : ∀ t ∈ ts, (t.1 = 1 → t.2.2.1 < 4611686018427387904) ∧ t.2.2.2.length ≤ s.length := by
  intro t ht
  obtain ⟨i, hi, hit⟩ := List.mem_iff_getElem.1 ht
  obtain ⟨t0, t', p1, p2, p3, p4, p5, _⟩ := parts h i hi
  have : t0 = t := by
    rw [List.getElem?_append_left hi, List.getElem?_eq_getElem hi, hit] at p1
    exact (Option.some.inj p1).symm
  subst this
  exact ⟨p4, p5⟩

section
attribute [local irreducible] Bc ACallsW ALoop Fin St.set St.new Dc
set_option maxHeartbeats 4000000 in
theorem back_ok (s : List UInt8) (hs : s.length ≤ 140737488355328) (σ : St) (hB : B0 σ.base) :
    ACalls Tryd.prog 4 [.str s] σ (fun id _ => σ.n ≤ id) (fun e σ' => e = .ret (.bool true)) := by
  refine acalls_go mixed Tryd.func4 c_back_ok (Nat.le_of_ble_eq_true rfl) ?_
  conv => whnf
  refine ACallsW.of (awake_ok _ hB Non) (fun _ _ _ h => h.elim) ?_
  rintro _ σ1 _ ⟨e1, rfl⟩
  have e2 := e1.symm
  subst e2
  conv => whnf
  repeat' (first
    | (refine Bc_t ?_; conv => whnf) | (refine Bc_f ?_; conv => whnf) | (rw [g1]; conv => whnf) | (rw [g2]; conv => whnf) | (rw [g3]; conv => whnf) | (rw [g4]; conv => whnf)
    | (rw [g5]; conv => whnf) | (rw [g6]; conv => whnf) | (rw [g7]; conv => whnf) | (rw [hr]; conv => whnf)
    | (refine And.intro (by first | omega | assumption | (simp only [St.set_n, St.new_n] at *; omega) | (simp; done) | (simp; omega) | (intro _ _; first | assumption | (simp only [St.set_n, St.new_n] at *; omega)) | (intro _; exact trivial) | (intro _; intro _ _; exact trivial) | (intro _; intro j hj; rfl)) ?_; conv => whnf)
    | (refine Dc.mk (by first | rfl | assumption | exact Nat.le_refl _ | exact Nat.le_of_ble_eq_true rfl | omega | (simp; done)) ?_; conv => whnf)
    | (rw [St.set_same]; conv => whnf) | (rw [St.new_same]; conv => whnf)
    | (rw [St.set_ne _ _ (by first | assumption | omega | (simp only [St.set_n, St.new_n] at *; omega))]; conv => whnf)
    | (rw [St.new_ne _ _ (by first | assumption | omega | (simp only [St.set_n, St.new_n] at *; omega))]; conv => whnf))
  refine ACallsW.of (lex_ok s _ hB Non) (fun _ _ _ h => h.elim) ?_
  rintro _ σ1 _ ⟨e1, rfl⟩
  have e2 := e1.symm
  subst e2
  by_cases hA : ∃ x, ¬ 4096 < s.length ∧ lexAll s = .ok x
  rotate_left 1
  · obtain ⟨e, p, he, h1⟩ := lexA_bad hA
    rw [h1]
    have g1 : (e != 0) = true := by simpa using he
    conv => whnf
    repeat' (first
      | (refine Bc_t ?_; conv => whnf) | (refine Bc_f ?_; conv => whnf) | (rw [g1]; conv => whnf) | (rw [g2]; conv => whnf) | (rw [g3]; conv => whnf) | (rw [g4]; conv => whnf)
      | (rw [g5]; conv => whnf) | (rw [g6]; conv => whnf) | (rw [g7]; conv => whnf) | (rw [hr]; conv => whnf)
      | (refine And.intro (by first | omega | assumption | (simp only [St.set_n, St.new_n] at *; omega) | (simp; done) | (simp; omega) | (intro _ _; first | assumption | (simp only [St.set_n, St.new_n] at *; omega)) | (intro _; exact trivial) | (intro _; intro _ _; exact trivial) | (intro _; intro j hj; rfl)) ?_; conv => whnf)
      | (refine Dc.mk (by first | rfl | assumption | exact Nat.le_refl _ | exact Nat.le_of_ble_eq_true rfl | omega | (simp; done)) ?_; conv => whnf)
      | (rw [St.set_same]; conv => whnf) | (rw [St.new_same]; conv => whnf)
      | (rw [St.set_ne _ _ (by first | assumption | omega | (simp only [St.set_n, St.new_n] at *; omega))]; conv => whnf)
      | (rw [St.new_ne _ _ (by first | assumption | omega | (simp only [St.set_n, St.new_n] at *; omega))]; conv => whnf))
    exact Fin.of rfl
  obtain ⟨ts, hls, hx⟩ := hA
  rw [lexA_ok hls hx]
  have htl := lexAll_len hx
  have hLl : (ts ++ [endTk s]).length = ts.length + 1 := by simp
  have hsm : ∀ t ∈ ts ++ [endTk s], (t.1 = 1 → t.2.2.1 < 4611686018427387904) ∧ t.2.2.2.length ≤ 4096 := fun t ht => by
    rcases List.mem_append.1 ht with q | q
    · have := lexAll_small hx t q; exact ⟨this.1, by omega⟩
    · rw [List.mem_singleton.1 q]; exact ⟨fun q => (by cases q), by simp [endTk]⟩
  have hpl : ∀ u ∈ ts ++ [endTk s], u.2.1 ≤ s.length := fun u hu => by
    rcases List.mem_append.1 hu with q | q
    · exact lexAll_pl hx u q
    · rw [List.mem_singleton.1 q]; exact Nat.le_refl _
  obtain ⟨vs, v1, v2⟩ := back hx
  have htx : texts (ts ++ [endTk s]) = texts ts ++ [32] := by unfold texts; rw [List.flatMap_append]; rfl
  have hvl : vs.length = ts.length := by have := congrArg List.length v2; simpa using this
  rw [← htx] at v1
  have hLs : ∀ (q : Nat) (u : Tk), (ts ++ [endTk s])[q]? = some u → ∃ p : Nat, (vs ++ [endTk (texts (ts ++ [endTk s]))])[q]? = some ((u.1, p, u.2.2) : Tk) := by
    intro q u hu
    by_cases hq : q < ts.length
    · rw [List.getElem?_append_left hq] at hu
      rw [List.getElem?_append_left (by omega)]
      have h1 := congrArg (fun l => l[q]?) v2
      simp only [List.getElem?_map, hu, Option.map_some] at h1
      cases hv : vs[q]? with
      | none => rw [hv] at h1; cases h1
      | some v =>
        rw [hv] at h1
        injection h1 with h1
        injection h1 with h2 h3
        exact ⟨v.2.1, by rw [← h2, ← h3]⟩
    · have hqe : q = ts.length := by
        have := (List.getElem?_eq_some_iff.1 hu).1
        omega
      rw [List.getElem?_append_right (by omega), hqe, Nat.sub_self] at hu
      rw [List.getElem?_append_right (by omega), hqe, hvl, Nat.sub_self]
      injection hu with hu
      subst hu
      exact ⟨_, rfl⟩
  conv => whnf
  repeat' (first
    | (refine Bc_t ?_; conv => whnf) | (refine Bc_f ?_; conv => whnf) | (rw [g1]; conv => whnf) | (rw [g2]; conv => whnf) | (rw [g3]; conv => whnf) | (rw [g4]; conv => whnf)
    | (rw [g5]; conv => whnf) | (rw [g6]; conv => whnf) | (rw [g7]; conv => whnf) | (rw [hr]; conv => whnf)
    | (refine And.intro (by first | omega | assumption | (simp only [St.set_n, St.new_n] at *; omega) | (simp; done) | (simp; omega) | (intro _ _; first | assumption | (simp only [St.set_n, St.new_n] at *; omega)) | (intro _; exact trivial) | (intro _; intro _ _; exact trivial) | (intro _; intro j hj; rfl)) ?_; conv => whnf)
    | (refine Dc.mk (by first | rfl | assumption | exact Nat.le_refl _ | exact Nat.le_of_ble_eq_true rfl | omega | (simp; done)) ?_; conv => whnf)
    | (rw [St.set_same]; conv => whnf) | (rw [St.new_same]; conv => whnf)
    | (rw [St.set_ne _ _ (by first | assumption | omega | (simp only [St.set_n, St.new_n] at *; omega))]; conv => whnf)
    | (rw [St.new_ne _ _ (by first | assumption | omega | (simp only [St.set_n, St.new_n] at *; omega))]; conv => whnf))
  unfold ALoop
  refine ⟨fun k env σ1 => ∃ q : Nat, k = ts.length + 1 - q ∧ q ≤ ts.length + 1 ∧ (texts ((ts ++ [endTk s]).take q)).length ≤ 20001 * q ∧ σ1 = σ ∧
      env = [(3, .sl .no 4 ((ts ++ [endTk s]).map tkA)), (6, .str (texts ((ts ++ [endTk s]).take q))), (23, .int .i64 (ts.length + 1 : Nat)), (24, .int .i64 q)], _,
    [(3, .sl .no 4 ((ts ++ [endTk s]).map tkA)), (6, .str []), (23, .int .i64 (ts.length + 1 : Nat)), (24, .int .i64 0)], ⟨rfl, rfl, int_eq (by rw [List.length_map, hLl]), rfl, trivial⟩, ⟨0, rfl, by omega, by simp [texts], rfl, by simp [texts]⟩, ?_⟩
  rintro k env σ1 ⟨q, rfl, hq, hlen, rfl, rfl⟩
  by_cases hqlt : q < ts.length + 1
  · have g1 : decide ((q : Int) < (ts.length + 1 : Nat)) = true := decide_eq_true (by omega)
    obtain ⟨u, hu⟩ : ∃ u, (ts ++ [endTk s])[q]? = some u := ⟨_, List.getElem?_eq_getElem (by omega)⟩
    have g2 : ((ts ++ [endTk s]).map tkA)[(q : Int).toNat]? = some (tkA u) := by show ((ts ++ [endTk s]).map tkA)[q]? = _; rw [List.getElem?_map, hu]; rfl
    obtain ⟨s1, s2⟩ := hsm u (List.mem_of_getElem? hu)
    have hinc : IntKind.i64.wrap ((q : Int) + 1) = ((q + 1 : Nat) : Int) := by rw [w64 (by omega) (by omega)]; omega
    have hstep : texts ((ts ++ [endTk s]).take (q + 1)) = texts ((ts ++ [endTk s]).take q) ++ (textOf u ++ [32]) := by
      unfold texts
      rw [List.take_add_one, hu, List.flatMap_append]
      simp
    have htl2 := textOf_len u s1 s2
    conv => whnf
    repeat' (first
      | (refine Bc_t ?_; conv => whnf) | (refine Bc_f ?_; conv => whnf) | (rw [g1]; conv => whnf) | (rw [g2]; conv => whnf) | (rw [g3]; conv => whnf) | (rw [g4]; conv => whnf)
      | (rw [g5]; conv => whnf) | (rw [g6]; conv => whnf) | (rw [g7]; conv => whnf) | (rw [hr]; conv => whnf)
      | (refine And.intro (by first | omega | assumption | (simp only [St.set_n, St.new_n] at *; omega) | (simp; done) | (simp; omega) | (intro _ _; first | assumption | (simp only [St.set_n, St.new_n] at *; omega)) | (intro _; exact trivial) | (intro _; intro _ _; exact trivial) | (intro _; intro j hj; rfl)) ?_; conv => whnf)
      | (refine Dc.mk (by first | rfl | assumption | exact Nat.le_refl _ | exact Nat.le_of_ble_eq_true rfl | omega | (simp; done)) ?_; conv => whnf)
      | (rw [St.set_same]; conv => whnf) | (rw [St.new_same]; conv => whnf)
      | (rw [St.set_ne _ _ (by first | assumption | omega | (simp only [St.set_n, St.new_n] at *; omega))]; conv => whnf)
      | (rw [St.new_ne _ _ (by first | assumption | omega | (simp only [St.set_n, St.new_n] at *; omega))]; conv => whnf))
    refine ACallsW.of (lextext_ok u s1 (by omega) _ hB Non) (fun _ _ _ h => h.elim) ?_
    rintro _ σ2 _ ⟨e1, rfl⟩
    have e2 := e1.symm
    subst e2
    generalize textOf u = T at hstep htl2 ⊢
    conv => whnf
    repeat' (first
      | (refine Bc_t ?_; conv => whnf) | (refine Bc_f ?_; conv => whnf) | (rw [g1]; conv => whnf) | (rw [g2]; conv => whnf) | (rw [g3]; conv => whnf) | (rw [g4]; conv => whnf)
      | (rw [g5]; conv => whnf) | (rw [g6]; conv => whnf) | (rw [g7]; conv => whnf) | (rw [hr]; conv => whnf)
      | (refine And.intro (by first | omega | assumption | (simp only [St.set_n, St.new_n] at *; omega) | (simp; done) | (simp; omega) | (intro _ _; first | assumption | (simp only [St.set_n, St.new_n] at *; omega)) | (intro _; exact trivial) | (intro _; intro _ _; exact trivial) | (intro _; intro j hj; rfl)) ?_; conv => whnf)
      | (refine Dc.mk (by first | rfl | assumption | exact Nat.le_refl _ | exact Nat.le_of_ble_eq_true rfl | omega | (simp; done)) ?_; conv => whnf)
      | (rw [St.set_same]; conv => whnf) | (rw [St.new_same]; conv => whnf)
      | (rw [St.set_ne _ _ (by first | assumption | omega | (simp only [St.set_n, St.new_n] at *; omega))]; conv => whnf)
      | (rw [St.new_ne _ _ (by first | assumption | omega | (simp only [St.set_n, St.new_n] at *; omega))]; conv => whnf))
    refine ⟨_, [(3, .sl .no 4 ((ts ++ [endTk s]).map tkA)), (6, .str (texts ((ts ++ [endTk s]).take (q + 1)))), (23, .int .i64 (ts.length + 1 : Nat)), (24, .int .i64 (q + 1 : Nat))], ?_, ⟨rfl, by rw [hstep]; rfl, rfl, int_eq hinc, trivial⟩, q + 1, rfl, by omega, ?_, rfl, rfl⟩
    · omega
    · rw [hstep, List.length_append, List.length_append, List.length_singleton]; omega
  obtain rfl : q = ts.length + 1 := by omega
  have g1 : decide (((ts.length + 1 : Nat) : Int) < (ts.length + 1 : Nat)) = false := by simp
  rw [show (ts ++ [endTk s]).take (ts.length + 1) = ts ++ [endTk s] by rw [← hLl, List.take_length]] at hlen ⊢
  conv => whnf
  repeat' (first
    | (refine Bc_t ?_; conv => whnf) | (refine Bc_f ?_; conv => whnf) | (rw [g1]; conv => whnf) | (rw [g2]; conv => whnf) | (rw [g3]; conv => whnf) | (rw [g4]; conv => whnf)
    | (rw [g5]; conv => whnf) | (rw [g6]; conv => whnf) | (rw [g7]; conv => whnf) | (rw [hr]; conv => whnf)
    | (refine And.intro (by first | omega | assumption | (simp only [St.set_n, St.new_n] at *; omega) | (simp; done) | (simp; omega) | (intro _ _; first | assumption | (simp only [St.set_n, St.new_n] at *; omega)) | (intro _; exact trivial) | (intro _; intro _ _; exact trivial) | (intro _; intro j hj; rfl)) ?_; conv => whnf)
    | (refine Dc.mk (by first | rfl | assumption | exact Nat.le_refl _ | exact Nat.le_of_ble_eq_true rfl | omega | (simp; done)) ?_; conv => whnf)
    | (rw [St.set_same]; conv => whnf) | (rw [St.new_same]; conv => whnf)
    | (rw [St.set_ne _ _ (by first | assumption | omega | (simp only [St.set_n, St.new_n] at *; omega))]; conv => whnf)
    | (rw [St.new_ne _ _ (by first | assumption | omega | (simp only [St.set_n, St.new_n] at *; omega))]; conv => whnf))
  clear g1
  generalize texts (ts ++ [endTk s]) = own at hlen v1 hLs ⊢
  by_cases hbig : 4096 < own.length
  · refine ACallsW.of (lex_ok own _ hB Non) (fun _ _ _ h => h.elim) ?_
    rintro _ σ2 _ ⟨e1, rfl⟩
    have e2 := e1.symm
    subst e2
    rw [lexA_big hbig]
    have g1 : decide ((own.length : Int) > 4096) = true := decide_eq_true (by omega)
    conv => whnf
    repeat' (first
      | (refine Bc_t ?_; conv => whnf) | (refine Bc_f ?_; conv => whnf) | (rw [g1]; conv => whnf) | (rw [g2]; conv => whnf) | (rw [g3]; conv => whnf) | (rw [g4]; conv => whnf)
      | (rw [g5]; conv => whnf) | (rw [g6]; conv => whnf) | (rw [g7]; conv => whnf) | (rw [hr]; conv => whnf)
      | (refine And.intro (by first | omega | assumption | (simp only [St.set_n, St.new_n] at *; omega) | (simp; done) | (simp; omega) | (intro _ _; first | assumption | (simp only [St.set_n, St.new_n] at *; omega)) | (intro _; exact trivial) | (intro _; intro _ _; exact trivial) | (intro _; intro j hj; rfl)) ?_; conv => whnf)
      | (refine Dc.mk (by first | rfl | assumption | exact Nat.le_refl _ | exact Nat.le_of_ble_eq_true rfl | omega | (simp; done)) ?_; conv => whnf)
      | (rw [St.set_same]; conv => whnf) | (rw [St.new_same]; conv => whnf)
      | (rw [St.set_ne _ _ (by first | assumption | omega | (simp only [St.set_n, St.new_n] at *; omega))]; conv => whnf)
      | (rw [St.new_ne _ _ (by first | assumption | omega | (simp only [St.set_n, St.new_n] at *; omega))]; conv => whnf))
    exact Fin.of rfl
  refine ACallsW.of (lex_own own _ hbig v1 _ hB) (fun _ _ _ h => h.elim) ?_
  rintro _ σ2 _ ⟨hσ2, rfl⟩
  have hob : σ2.obj σ1.n = .cells (flat ((vs ++ [endTk own]).map tkA)) := by rw [hσ2]; exact St.new_same _ _
  have hn2 : σ2.n = σ1.n + 1 := by rw [hσ2, St.new_n]
  clear hσ2
  have hll : (vs ++ [endTk own]).length = (ts ++ [endTk s]).length := by simp [hvl]
  generalize vs ++ [endTk own] = L' at hob hll hLs ⊢
  rw [← hLl] at hlen ⊢
  generalize ts ++ [endTk s] = L at hll hLs hpl hLl hsm hlen ⊢
  have g1 : ((L'.length : Int) != ((L.map tkA).length : Int)) = false := by rw [List.length_map, hll]; simp
  conv => whnf
  repeat' (first
    | (refine Bc_t ?_; conv => whnf) | (refine Bc_f ?_; conv => whnf) | (rw [g1]; conv => whnf) | (rw [g2]; conv => whnf) | (rw [g3]; conv => whnf) | (rw [g4]; conv => whnf)
    | (rw [g5]; conv => whnf) | (rw [g6]; conv => whnf) | (rw [g7]; conv => whnf) | (rw [hr]; conv => whnf)
    | (refine And.intro (by first | omega | assumption | (simp only [St.set_n, St.new_n] at *; omega) | (simp; done) | (simp; omega) | (intro _ _; first | assumption | (simp only [St.set_n, St.new_n] at *; omega)) | (intro _; exact trivial) | (intro _; intro _ _; exact trivial) | (intro _; intro j hj; rfl)) ?_; conv => whnf)
    | (refine Dc.mk (by first | rfl | assumption | exact Nat.le_refl _ | exact Nat.le_of_ble_eq_true rfl | omega | (simp; done)) ?_; conv => whnf)
    | (rw [St.set_same]; conv => whnf) | (rw [St.new_same]; conv => whnf)
    | (rw [St.set_ne _ _ (by first | assumption | omega | (simp only [St.set_n, St.new_n] at *; omega))]; conv => whnf)
    | (rw [St.new_ne _ _ (by first | assumption | omega | (simp only [St.set_n, St.new_n] at *; omega))]; conv => whnf))
  clear g1
  refine ⟨fun k env σ3 => ∃ q : Nat, k = L.length - q ∧ q ≤ L.length ∧ σ3.n = σ1.n + 1 ∧ σ3.obj σ1.n = .cells (flat ((L.take q ++ L'.drop q).map tkA)) ∧
      env = [(3, .sl .no 4 (L.map tkA)), (8, .os σ1.n 0 L.length 4), (57, .int .i64 L.length), (58, .int .i64 q)], _,
    [(3, .sl .no 4 (L.map tkA)), (8, .os σ1.n 0 L.length 4), (57, .int .i64 L.length), (58, .int .i64 0)], ⟨rfl, congrArg (fun z => some (A.os σ1.n 0 z 4)) hll, int_eq (by rw [hll]), rfl, trivial⟩,
    ⟨0, rfl, by omega, hn2, by rw [List.take_zero, List.nil_append, List.drop_zero]; exact hob, rfl⟩, ?_⟩
  rintro k env σ3 ⟨q, rfl, hq, hn3, hob3, rfl⟩
  have hml := mix_len hll hq
  by_cases hqlt : q < L.length
  · have g1 : decide ((q : Int) < L.length) = true := decide_eq_true (by omega)
    obtain ⟨u, hu⟩ : ∃ u, L[q]? = some u := ⟨_, List.getElem?_eq_getElem hqlt⟩
    obtain ⟨p, hv⟩ := hLs q u hu
    have g2 : (L.map tkA)[(q : Int).toNat]? = some (tkA u) := by show (L.map tkA)[q]? = _; rw [List.getElem?_map, hu]; rfl
    have hinc : IntKind.i64.wrap ((q : Int) + 1) = ((q + 1 : Nat) : Int) := by rw [w64 (by omega) (by omega)]; omega
    have hmx := mix_at hv hqlt
    have hset2 : (L.take q ++ L'.drop q).set q (u.1, u.2.1, u.2.2) = L.take (q + 1) ++ L'.drop (q + 1) := mix_set (L' := L') hu (by omega)
    have g5 := tk_set u.2.1 hmx
    have hle1 : 0 + (q : Int).toNat * 4 + 1 + 1 ≤ (flat ((L.take q ++ L'.drop q).map tkA)).length := by rw [tk_flen, hml]; show 0 + q * 4 + 1 + 1 ≤ _; omega
    have hr := hob3
    conv => whnf
    repeat' (first
      | (refine Bc_t ?_; conv => whnf) | (refine Bc_f ?_; conv => whnf) | (rw [g1]; conv => whnf) | (rw [g2]; conv => whnf) | (rw [g3]; conv => whnf) | (rw [g4]; conv => whnf)
      | (rw [g5]; conv => whnf) | (rw [g6]; conv => whnf) | (rw [g7]; conv => whnf) | (rw [hr]; conv => whnf)
      | (refine And.intro (by first | omega | assumption | (simp only [St.set_n, St.new_n] at *; omega) | (simp; done) | (simp; omega) | (intro _ _; first | assumption | (simp only [St.set_n, St.new_n] at *; omega)) | (intro _; exact trivial) | (intro _; intro _ _; exact trivial) | (intro _; intro j hj; rfl)) ?_; conv => whnf)
      | (refine Dc.mk (by first | rfl | assumption | exact Nat.le_refl _ | exact Nat.le_of_ble_eq_true rfl | omega | (simp; done)) ?_; conv => whnf)
      | (rw [St.set_same]; conv => whnf) | (rw [St.new_same]; conv => whnf)
      | (rw [St.set_ne _ _ (by first | assumption | omega | (simp only [St.set_n, St.new_n] at *; omega))]; conv => whnf)
      | (rw [St.new_ne _ _ (by first | assumption | omega | (simp only [St.set_n, St.new_n] at *; omega))]; conv => whnf))
    refine ⟨_, [(3, .sl .no 4 (L.map tkA)), (8, .os σ1.n 0 L.length 4), (57, .int .i64 L.length), (58, .int .i64 (q + 1 : Nat))], ?_, ⟨rfl, rfl, rfl, int_eq hinc, trivial⟩, q + 1, rfl, by omega, by rw [St.set_n]; exact hn3, ?_, rfl⟩
    · omega
    · rw [St.set_same, ← hset2]
      first
        | rfl
        | exact congrArg AO.cells g5
  · obtain rfl : q = L.length := by omega
    have g1 : decide ((L.length : Int) < L.length) = false := by simp
    rw [List.take_length, List.drop_of_length_le (by omega), List.append_nil] at hob3
    conv => whnf
    repeat' (first
      | (refine Bc_t ?_; conv => whnf) | (refine Bc_f ?_; conv => whnf) | (rw [g1]; conv => whnf) | (rw [g2]; conv => whnf) | (rw [g3]; conv => whnf) | (rw [g4]; conv => whnf)
      | (rw [g5]; conv => whnf) | (rw [g6]; conv => whnf) | (rw [g7]; conv => whnf) | (rw [hr]; conv => whnf)
      | (refine And.intro (by first | omega | assumption | (simp only [St.set_n, St.new_n] at *; omega) | (simp; done) | (simp; omega) | (intro _ _; first | assumption | (simp only [St.set_n, St.new_n] at *; omega)) | (intro _; exact trivial) | (intro _; intro _ _; exact trivial) | (intro _; intro j hj; rfl)) ?_; conv => whnf)
      | (refine Dc.mk (by first | rfl | assumption | exact Nat.le_refl _ | exact Nat.le_of_ble_eq_true rfl | omega | (simp; done)) ?_; conv => whnf)
      | (rw [St.set_same]; conv => whnf) | (rw [St.new_same]; conv => whnf)
      | (rw [St.set_ne _ _ (by first | assumption | omega | (simp only [St.set_n, St.new_n] at *; omega))]; conv => whnf)
      | (rw [St.new_ne _ _ (by first | assumption | omega | (simp only [St.set_n, St.new_n] at *; omega))]; conv => whnf))
    refine ACallsW.of (same_os σ1.n .no L L (by omega) _ hob3 Non) (fun _ _ _ h => h.elim) ?_
    rintro _ σ4 _ ⟨e1, rfl⟩
    have e2 := e1.symm
    subst e2
    conv => whnf
    repeat' (first
      | (refine Bc_t ?_; conv => whnf) | (refine Bc_f ?_; conv => whnf) | (rw [g1]; conv => whnf) | (rw [g2]; conv => whnf) | (rw [g3]; conv => whnf) | (rw [g4]; conv => whnf)
      | (rw [g5]; conv => whnf) | (rw [g6]; conv => whnf) | (rw [g7]; conv => whnf) | (rw [hr]; conv => whnf)
      | (refine And.intro (by first | omega | assumption | (simp only [St.set_n, St.new_n] at *; omega) | (simp; done) | (simp; omega) | (intro _ _; first | assumption | (simp only [St.set_n, St.new_n] at *; omega)) | (intro _; exact trivial) | (intro _; intro _ _; exact trivial) | (intro _; intro j hj; rfl)) ?_; conv => whnf)
      | (refine Dc.mk (by first | rfl | assumption | exact Nat.le_refl _ | exact Nat.le_of_ble_eq_true rfl | omega | (simp; done)) ?_; conv => whnf)
      | (rw [St.set_same]; conv => whnf) | (rw [St.new_same]; conv => whnf)
      | (rw [St.set_ne _ _ (by first | assumption | omega | (simp only [St.set_n, St.new_n] at *; omega))]; conv => whnf)
      | (rw [St.new_ne _ _ (by first | assumption | omega | (simp only [St.set_n, St.new_n] at *; omega))]; conv => whnf))
    exact Fin.of (congrArg (fun z => AEnd.ret (A.bool z)) (decide_eq_true rfl))
end
end Go.Proofs.YtjeccchbeflddaaDoor.Ga
