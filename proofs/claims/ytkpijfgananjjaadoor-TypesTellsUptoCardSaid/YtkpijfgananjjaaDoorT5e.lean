/- Types: the reference's Canon; it is the program's. -/
import Derived.Test.YtkpijfgananjjaaDoorT5d
set_option linter.unusedVariables false
set_option linter.unusedSimpArgs false
namespace Go.Proofs.YtkpijfgananjjaaDoor.Ga

def upto (n : Nat) : List Int := (List.range n).map fun (i : Nat) => (i : Int) + 1
theorem upto_len (n : Nat) : (upto n).length = n := by simp [upto]
theorem upto_succ (n : Nat) : upto (n + 1) = upto n ++ [(n : Int) + 1] := by simp [upto, List.range_succ]
def nmF (vs : List Int) : List (Int × Int) := vs.zip (upto vs.length)
theorem nmF_snoc (vs : List Int) (v : Int) : nmF (vs ++ [v]) = nmF vs ++ [(v, (vs.length : Int) + 1)] := by
  unfold nmF
  rw [List.length_append, List.length_singleton, upto_succ, List.zip_append (by rw [upto_len])]
  rfl
theorem nmF_prefix {vs ws : List Int} : ∃ z, nmF (vs ++ ws) = nmF vs ++ z := by
  induction ws generalizing vs with
  | nil => exact ⟨[], by simp⟩
  | cons w r ih =>
    obtain ⟨z, hz⟩ := ih (vs := vs ++ [w])
    rw [show vs ++ w :: r = (vs ++ [w]) ++ r by simp, hz, nmF_snoc]
    exact ⟨[(w, (vs.length : Int) + 1)] ++ z, by simp⟩
theorem lookup_app_some {z y : List (Int × Int)} {v k : Int} (h : z.lookup v = some k) : (z ++ y).lookup v = some k := by
  induction z with
  | nil => cases h
  | cons p r ih =>
    obtain ⟨w, u⟩ := p
    rw [List.cons_append, List.lookup_cons]
    rw [List.lookup_cons] at h
    cases hq : v == w with
    | true => rw [hq] at h; exact h
    | false => rw [hq] at h; exact ih h
theorem lookup_app_none {z y : List (Int × Int)} {v : Int} (h : z.lookup v = none) : (z ++ y).lookup v = y.lookup v := by
  induction z with
  | nil => rfl
  | cons p r ih =>
    obtain ⟨w, u⟩ := p
    rw [List.cons_append, List.lookup_cons]
    rw [List.lookup_cons] at h
    cases hq : v == w with
    | true => rw [hq] at h; cases h
    | false => rw [hq] at h; exact ih h
theorem nmF_lookup (v : Int) : ∀ vs : List Int, (nmF vs).lookup v = none ↔ vs.contains v = false := by
  have key : ∀ (n : Nat) (vs : List Int), vs.length = n → ((nmF vs).lookup v = none ↔ vs.contains v = false) := by
    intro n
    induction n with
    | zero => intro vs h; rw [List.length_eq_zero_iff.1 h]; simp [nmF]
    | succ n ih =>
      intro vs h
      obtain ⟨ws, w, rfl⟩ : ∃ ws w, vs = ws ++ [w] := by
        rcases List.eq_nil_or_concat vs with q | ⟨ws, w, q⟩
        · rw [q] at h; simp at h
        · exact ⟨ws, w, by rw [q, List.concat_eq_append]⟩
      have hw := ih ws (by simpa using h)
      rw [nmF_snoc]
      by_cases hq : ws.contains v = false
      · rw [lookup_app_none (hw.2 hq)]
        simp only [List.lookup_cons, List.lookup_nil, List.contains_eq_any_beq, List.any_append, List.any_cons, List.any_nil, Bool.or_false]
        rw [← List.contains_eq_any_beq, hq, Bool.false_or]
        cases hvw : v == w <;> simp
      · have hne : (nmF ws).lookup v ≠ none := fun e => hq (hw.1 e)
        obtain ⟨k, hk⟩ := Option.ne_none_iff_exists'.1 hne
        rw [lookup_app_some hk]
        have : (ws ++ [w]).contains v = true := by
          rw [List.contains_eq_any_beq, List.any_append, ← List.contains_eq_any_beq]; simp at hq; simp [hq]
        rw [this]
        simp
  exact fun vs => key _ vs rfl

theorem renV_out {v : Int} : ∀ (z : List (Int × Int)) (acc : Int), (∀ p ∈ z, p.1 ≠ v) → renV z v acc = acc
  | [], _, _ => rfl
  | (f, t) :: r, acc, h => by
    rw [renV, if_neg (fun q => h (f, t) (List.mem_cons_self ..) q.2)]
    exact renV_out r acc (fun p hp => h p (List.mem_cons_of_mem _ hp))
theorem renV_in {v : Int} (hv : 0 < v) : ∀ (z : List (Int × Int)) (acc : Int), (z.map Prod.fst).Nodup → renV z v acc = (z.lookup v).getD acc
  | [], _, _ => rfl
  | (f, t) :: r, acc, h => by
    rw [List.map_cons, List.nodup_cons] at h
    rw [renV, List.lookup_cons]
    by_cases hf : f = v
    · rw [if_pos ⟨hv, hf⟩, renV_out r t (fun p hp e => h.1 (by rw [hf, ← e]; exact List.mem_map.2 ⟨p, hp, rfl⟩)), show (v == f) = true from beq_iff_eq.2 hf.symm]
      rfl
    · rw [if_neg (fun q => hf q.2), show (v == f) = false from beq_eq_false_iff_ne.2 (Ne.symm hf)]
      exact renV_in hv r acc h.2
theorem renV_zero : ∀ (z : List (Int × Int)) (acc : Int), renV z 0 acc = acc
  | [], _ => rfl
  | (f, t) :: r, acc => by rw [renV, if_neg (fun q => by omega)]; exact renV_zero r acc
theorem nmF_keys (vs : List Int) : (nmF vs).map Prod.fst = vs := by
  unfold nmF
  exact List.map_fst_zip (by rw [upto_len]; exact Nat.le_refl _)

theorem vars_ext : ∀ (t : Ty) (vs : List Int), vs.Nodup → (varsP t vs).Nodup ∧ ∃ ws, varsP t vs = vs ++ ws := Ty.ind fun v s l ih vs hnd => by
  rw [varsP]
  split
  · split
    · exact ⟨hnd, [], by simp⟩
    · rename_i hc
      refine ⟨?_, [v], rfl⟩
      rw [List.nodup_append]
      refine ⟨hnd, by simp, fun a ha b hb => ?_⟩
      rcases List.mem_singleton.1 hb with rfl
      exact fun e => hc (by rw [List.contains_iff_mem]; exact e ▸ ha)
  · have key : ∀ (l : List Ty) (vs : List Int), (∀ x ∈ l, ∀ (vs : List Int), vs.Nodup → (varsP x vs).Nodup ∧ ∃ ws, varsP x vs = vs ++ ws) → vs.Nodup → (varssP l vs).Nodup ∧ ∃ ws, varssP l vs = vs ++ ws := by
      intro l
      induction l with
      | nil => intro vs _ hnd; exact ⟨hnd, [], by simp [varssP]⟩
      | cons t r h =>
        intro vs ih hnd
        rw [varssP]
        obtain ⟨h1, ws, h2⟩ := ih t (List.mem_cons_self ..) vs hnd
        obtain ⟨h3, us, h4⟩ := h (varsP t vs) (fun x hx => ih x (List.mem_cons_of_mem _ hx)) h1
        exact ⟨h3, ws ++ us, by rw [h4, h2]; simp⟩
    exact key l vs ih hnd
theorem varss_ext (l : List Ty) : ∀ (vs : List Int), vs.Nodup → (varssP l vs).Nodup ∧ ∃ ws, varssP l vs = vs ++ ws := by
  induction l with
  | nil => intro vs hnd; exact ⟨hnd, [], by simp [varssP]⟩
  | cons t r h =>
    intro vs hnd
    rw [varssP]
    obtain ⟨h1, ws, h2⟩ := vars_ext t vs hnd
    obtain ⟨h3, us, h4⟩ := h (varsP t vs) h1
    exact ⟨h3, ws ++ us, by rw [h4, h2]; simp⟩

theorem canon_eq : ∀ (t : Ty), mayP t = true → ∀ (vs : List Int), vs.Nodup → ∀ ws, (varsP t vs ++ ws).Nodup → canonP t (nmF vs) = (nmF (varsP t vs), renP (nmF (varsP t vs ++ ws)) t) := Ty.ind fun v s l ih hm vs hnd ws hW => by
  rw [mayP] at hm
  by_cases h0 : v = 0
  · subst h0
    rw [if_pos rfl, Bool.and_eq_true] at hm
    rw [canonP, if_neg (by omega), renP, renV_zero]
    have e : varsP (.mk 0 s l) vs = varssP l vs := by rw [varsP, if_neg (by omega)]
    rw [e] at hW ⊢
    have key : ∀ (l : List Ty) (vs : List Int), (∀ x ∈ l, mayP x = true → ∀ (vs : List Int), vs.Nodup → ∀ ws, (varsP x vs ++ ws).Nodup → canonP x (nmF vs) = (nmF (varsP x vs), renP (nmF (varsP x vs ++ ws)) x)) → maysP l = true → vs.Nodup → ∀ ws, (varssP l vs ++ ws).Nodup →
        canonsP l (nmF vs) = (nmF (varssP l vs), renPs (nmF (varssP l vs ++ ws)) l) := by
      intro l
      induction l with
      | nil => intro vs _ _ _ ws _; rfl
      | cons t r h =>
        intro vs ih hm hnd ws hW
        rw [maysP, Bool.and_eq_true] at hm
        obtain ⟨h1, us, h2⟩ := vars_ext t vs hnd
        obtain ⟨h3, zs, h4⟩ := varss_ext r (varsP t vs) h1
        rw [varssP] at hW ⊢
        have e1 := ih t (List.mem_cons_self ..) hm.1 vs hnd (zs ++ ws) (by rw [h4] at hW; simpa using hW)
        have e2 := h (varsP t vs) (fun x hx => ih x (List.mem_cons_of_mem _ hx)) hm.2 h1 ws hW
        rw [canonsP, e1]
        simp only
        rw [e2, renPs]
        have e3 : varssP r (varsP t vs) ++ ws = varsP t vs ++ (zs ++ ws) := by rw [h4]; simp
        rw [e3]
    rw [key l vs ih hm.1 hnd ws hW]
  · rw [if_neg h0] at hm
    simp only [Bool.and_eq_true, decide_eq_true_eq, beq_iff_eq, List.isEmpty_iff] at hm
    obtain ⟨⟨hv, rfl⟩, rfl⟩ := hm
    rw [canonP, if_pos hv, renP]
    have hr := renV_in hv (nmF (varsP (.mk v [] []) vs ++ ws)) v (by rw [nmF_keys]; exact hW)
    rw [hr]
    obtain ⟨z, hz⟩ := nmF_prefix (vs := varsP (.mk v [] []) vs) (ws := ws)
    rw [hz]
    rw [varsP, if_pos hv] at *
    cases hc : vs.contains v with
    | true =>
      have hne : (nmF vs).lookup v ≠ none := fun e => by rw [(nmF_lookup v vs).1 e] at hc; cases hc
      obtain ⟨k, hk⟩ := Option.ne_none_iff_exists'.1 hne
      have e2 : numOf' (nmF vs) v = (nmF vs, k) := by unfold numOf'; rw [hk]
      rw [if_pos rfl, e2, lookup_app_some hk]
      rfl
    | false =>
      have hk := (nmF_lookup v vs).2 hc
      have hlen : (nmF vs).length = vs.length := by unfold nmF; rw [List.length_zip, upto_len, Nat.min_self]
      have e2 : numOf' (nmF vs) v = (nmF (vs ++ [v]), (vs.length : Int) + 1) := by unfold numOf'; rw [hk, nmF_snoc, hlen]
      rw [if_neg (by simp), e2, lookup_app_some (by rw [nmF_snoc]; exact lookup_snoc _ _ _ hk)]
      rfl
theorem canon_law {t : Ty} (h : mayP t = true) : (canonP t []).2 = renP ((varsP t []).zip (upto (varsP t []).length)) t := by
  have hnd := (vars_ext t [] List.nodup_nil).1
  have := canon_eq t h [] List.nodup_nil [] (by simpa using hnd)
  rw [show nmF [] = [] from rfl] at this
  rw [this, List.append_nil]
  rfl

section
attribute [local irreducible] Bc ACallsW ALoop Fin St.set St.new Next
set_option maxHeartbeats 2000000 in
theorem rcanon_ok (t : Ty) (hn : t.nn ≤ 1000000) (σ : St) (m) : ACalls Tryd.prog 12 [t.a] σ m (fun e σ' => σ' = σ ∧ e = .ret (renP ((varsP t []).zip (upto (varsP t []).length)) t).a) := by
  obtain ⟨v, s, l⟩ := t
  have hvl := vars_len (.mk v s l) []
  have hvo := vars_ok (.mk v s l) hn
  obtain ⟨V, hV⟩ : ∃ V, varsP (.mk v s l) [] = V := ⟨_, rfl⟩
  have hvo := hvo σ.n [] .nils
  rw [hV] at hvl hvo ⊢
  have hren := ren_ok V (upto V.length) (upto_len _).symm (by simp at hvl; omega) (.mk v s l) hn
  obtain ⟨⟨v2, s2, l2⟩, hre⟩ : ∃ b, renP (V.zip (upto V.length)) (.mk v s l) = b := ⟨_, rfl⟩
  rw [hre] at hren ⊢
  rw [Ty.a_mk'] at hvo hren ⊢
  rw [Ty.a_mk'] at hren ⊢
  refine ACalls.reads ?_ m
  refine acalls_go mixed Tryd.func12 c_rcanon_ok (Nat.le_of_ble_eq_true rfl) ?_
  conv => whnf
  repeat' ((first | refine Bc_t ?_ | refine Bc_f ?_ | rw [g1] | rw [g2] | rw [g3] | rw [g4] | rw [g5] | rw [g6] | rw [g7] | rw [g8] | rw [g9] | rw [hr] | refine And.intro (by first | omega | assumption | exact Or.inl (by first | rfl | exact Or.inl rfl | exact Or.inr rfl | exact Or.inr (Or.inl rfl) | exact Or.inr (Or.inr rfl)) | (intro _ _; exact Or.inl (by first | rfl | exact Or.inl rfl | exact Or.inr rfl | exact Or.inr (Or.inl rfl) | exact Or.inr (Or.inr rfl))) | (simp only [St.set_n, St.new_n] at *; omega) | (simp; done) | (simp; omega) | (intro _ _; first | assumption | exact Or.inr (by first | omega | (simp only [St.set_n, St.new_n] at *; omega)) | (simp only [St.set_n, St.new_n] at *; omega)) | (intro _ _; exact ⟨Or.inr (by first | omega | (simp only [St.set_n, St.new_n] at *; omega)), by first | exact id | exact Nat.lt_irrefl _ | omega | (show ¬ (_ : Nat) < _; simp only [St.set_n, St.new_n]; omega)⟩) | (intro _ _; first | omega | exact Or.inl rfl) | (intro _; show (_ : Nat) < _; first | omega | (simp only [St.set_n, St.new_n] at *; omega)) | (intro _; intro _ _; show (_ : Nat) < _; first | omega | (simp only [St.set_n, St.new_n] at *; omega)) | (intro _; intro _ _; assumption) | (intro _; assumption) | (intro _; exact trivial) | (intro _; intro _ _; exact trivial) | (intro _; intro j hj; rfl) | (simp only [List.length_append, List.length_cons, List.length_nil]; omega) | (intro e he; rcases List.mem_singleton.1 he with rfl; exact ⟨rfl, rfl⟩) | exact Or.inr (by first | assumption | omega | (simp only [St.set_n, St.new_n] at *; omega)) | exact (by (repeat (first | rw [St.set_same] | rw [St.new_same] | rw [St.set_ne _ _ (by first | assumption | exact Ne.symm (by assumption) | omega | (simp only [St.set_n, St.new_n] at *; omega))] | rw [St.new_ne _ _ (by first | assumption | exact Ne.symm (by assumption) | omega | (simp only [St.set_n, St.new_n] at *; omega))])) <;> first | assumption | rfl | exact St.new_same _ _ | exact St.set_same _ _ _) | (intro h; cases h)) ?_ | (refine Dc.mk ?_ ?_; (first | rfl | assumption | exact Nat.le_refl _ | exact Nat.le_of_ble_eq_true rfl | omega | (simp; done))) | rw [mapOf_eq (by (repeat (first | rw [St.set_same] | rw [St.new_same] | rw [St.set_ne _ _ (by first | assumption | exact Ne.symm (by assumption) | omega | (simp only [St.set_n, St.new_n] at *; omega))] | rw [St.new_ne _ _ (by first | assumption | exact Ne.symm (by assumption) | omega | (simp only [St.set_n, St.new_n] at *; omega))])) <;> first | assumption | rfl | exact St.new_same _ _ | exact St.set_same _ _ _)] | rw [St.set_same] | rw [St.new_same] | rw [St.set_ne _ _ (by first | assumption | exact Ne.symm (by assumption) | omega | (simp only [St.set_n, St.new_n] at *; omega))] | rw [St.new_ne _ _ (by first | assumption | exact Ne.symm (by assumption) | omega | (simp only [St.set_n, St.new_n] at *; omega))]); conv => whnf)
  refine ACallsW.of (hvo _ (by first | omega | (simp only [St.set_n, St.new_n]; omega) | (simp only [St.set_n, St.new_n] at *; omega)) Grow.nil (by simp; omega)) (fun id off _ h => .inr h) ?_
  rintro _ σ2 _ ⟨a', rfl, hg, hso⟩
  have hs2 := hso.1
  have f1 : σ2.obj σ.n = .cells [.int .i64 v, .str s, .sl .no 3 (Ty.as l)] := hso.cells (by first | omega | (simp only [St.set_n, St.new_n]; omega) | (simp only [St.set_n, St.new_n] at *; omega)) (by (repeat (first | rw [St.set_same] | rw [St.new_same] | rw [St.set_ne _ _ (by first | assumption | exact Ne.symm (by assumption) | omega | (simp only [St.set_n, St.new_n] at *; omega))] | rw [St.new_ne _ _ (by first | assumption | exact Ne.symm (by assumption) | omega | (simp only [St.set_n, St.new_n] at *; omega))])) <;> first | assumption | rfl | exact St.new_same _ _ | exact St.set_same _ _ _)
  have f2 : σ2.obj (σ.new (.cells (A.agg [.int .i64 v, .str s, .sl .no 3 (Ty.as l)]).cells)).n = .cells [.int .i64 0, .str [], .nils] := hso.cells (by first | omega | (simp only [St.set_n, St.new_n]; omega) | (simp only [St.set_n, St.new_n] at *; omega)) (by (repeat (first | rw [St.set_same] | rw [St.new_same] | rw [St.set_ne _ _ (by first | assumption | exact Ne.symm (by assumption) | omega | (simp only [St.set_n, St.new_n] at *; omega))] | rw [St.new_ne _ _ (by first | assumption | exact Ne.symm (by assumption) | omega | (simp only [St.set_n, St.new_n] at *; omega))])) <;> first | assumption | rfl | exact St.new_same _ _ | exact St.set_same _ _ _)
  have hle := hg.le
  have hal : (∃ t, a' = .sl (.tok t) 1 (intsA V)) ∨ (V = [] ∧ a' = .nils) := by
    rcases hg with ⟨hnil, rfl⟩ | ⟨t, _, _, _, rfl⟩
    · rw [intsA, List.map_eq_nil_iff] at hnil; exact .inr ⟨hnil, rfl⟩
    · exact .inl ⟨t, rfl⟩
  have hil := intsA_len V
  rcases hal with ⟨t, rfl⟩ | ⟨rfl, rfl⟩
  · skip
    conv => whnf
    repeat' ((first | refine Bc_t ?_ | refine Bc_f ?_ | rw [g1] | rw [g2] | rw [g3] | rw [g4] | rw [g5] | rw [g6] | rw [g7] | rw [g8] | rw [g9] | rw [hr] | refine And.intro (by first | omega | assumption | exact Or.inl (by first | rfl | exact Or.inl rfl | exact Or.inr rfl | exact Or.inr (Or.inl rfl) | exact Or.inr (Or.inr rfl)) | (intro _ _; exact Or.inl (by first | rfl | exact Or.inl rfl | exact Or.inr rfl | exact Or.inr (Or.inl rfl) | exact Or.inr (Or.inr rfl))) | (simp only [St.set_n, St.new_n] at *; omega) | (simp; done) | (simp; omega) | (intro _ _; first | assumption | exact Or.inr (by first | omega | (simp only [St.set_n, St.new_n] at *; omega)) | (simp only [St.set_n, St.new_n] at *; omega)) | (intro _ _; exact ⟨Or.inr (by first | omega | (simp only [St.set_n, St.new_n] at *; omega)), by first | exact id | exact Nat.lt_irrefl _ | omega | (show ¬ (_ : Nat) < _; simp only [St.set_n, St.new_n]; omega)⟩) | (intro _ _; first | omega | exact Or.inl rfl) | (intro _; show (_ : Nat) < _; first | omega | (simp only [St.set_n, St.new_n] at *; omega)) | (intro _; intro _ _; show (_ : Nat) < _; first | omega | (simp only [St.set_n, St.new_n] at *; omega)) | (intro _; intro _ _; assumption) | (intro _; assumption) | (intro _; exact trivial) | (intro _; intro _ _; exact trivial) | (intro _; intro j hj; rfl) | (simp only [List.length_append, List.length_cons, List.length_nil]; omega) | (intro e he; rcases List.mem_singleton.1 he with rfl; exact ⟨rfl, rfl⟩) | exact Or.inr (by first | assumption | omega | (simp only [St.set_n, St.new_n] at *; omega)) | exact (by (repeat (first | rw [St.set_same] | rw [St.new_same] | rw [St.set_ne _ _ (by first | assumption | exact Ne.symm (by assumption) | omega | (simp only [St.set_n, St.new_n] at *; omega))] | rw [St.new_ne _ _ (by first | assumption | exact Ne.symm (by assumption) | omega | (simp only [St.set_n, St.new_n] at *; omega))])) <;> first | assumption | rfl | exact St.new_same _ _ | exact St.set_same _ _ _) | (intro h; cases h)) ?_ | (refine Dc.mk ?_ ?_; (first | rfl | assumption | exact Nat.le_refl _ | exact Nat.le_of_ble_eq_true rfl | omega | (simp; done))) | rw [mapOf_eq (by (repeat (first | rw [St.set_same] | rw [St.new_same] | rw [St.set_ne _ _ (by first | assumption | exact Ne.symm (by assumption) | omega | (simp only [St.set_n, St.new_n] at *; omega))] | rw [St.new_ne _ _ (by first | assumption | exact Ne.symm (by assumption) | omega | (simp only [St.set_n, St.new_n] at *; omega))])) <;> first | assumption | rfl | exact St.new_same _ _ | exact St.set_same _ _ _)] | rw [St.set_same] | rw [St.new_same] | rw [St.set_ne _ _ (by first | assumption | exact Ne.symm (by assumption) | omega | (simp only [St.set_n, St.new_n] at *; omega))] | rw [St.new_ne _ _ (by first | assumption | exact Ne.symm (by assumption) | omega | (simp only [St.set_n, St.new_n] at *; omega))]); conv => whnf)
    refine ALoop.range V.length (fun j (p : A) => [(1, .ptr σ.n 0), (2, .ptr (σ.new (.cells (A.agg [.int .i64 v, .str s, .sl .no 3 (Ty.as l)]).cells)).n 0), (3, .sl (.tok t) 1 (intsA V)), (4, p), (5, .int .i64 j)])
      (fun j p σ1 => j ≤ V.length ∧ (j = 0 ∧ p = .sl .full 1 [] ∨ 0 < j ∧ Grow σ.n 1 σ1 (intsA (upto j)) p) ∧ (σ.new (.cells (A.agg [.int .i64 v, .str s, .sl .no 3 (Ty.as l)]).cells)).n < σ1.n ∧ σ1.obj σ.n = .cells [.int .i64 v, .str s, .sl .no 3 (Ty.as l)] ∧ σ1.obj (σ.new (.cells (A.agg [.int .i64 v, .str s, .sl .no 3 (Ty.as l)]).cells)).n = .cells [.int .i64 0, .str [], .nils]) (.sl .full 1 []) ⟨rfl, rfl, rfl, rfl, rfl, trivial⟩ ⟨by omega, .inl ⟨rfl, rfl⟩, (by first | omega | (simp only [St.set_n, St.new_n]; omega) | (simp only [St.set_n, St.new_n] at *; omega)), (by (repeat (first | rw [St.set_same] | rw [St.new_same] | rw [St.set_ne _ _ (by first | assumption | exact Ne.symm (by assumption) | omega | (simp only [St.set_n, St.new_n] at *; omega))] | rw [St.new_ne _ _ (by first | assumption | exact Ne.symm (by assumption) | omega | (simp only [St.set_n, St.new_n] at *; omega))])) <;> first | assumption | rfl | exact St.new_same _ _ | exact St.set_same _ _ _), (by (repeat (first | rw [St.set_same] | rw [St.new_same] | rw [St.set_ne _ _ (by first | assumption | exact Ne.symm (by assumption) | omega | (simp only [St.set_n, St.new_n] at *; omega))] | rw [St.new_ne _ _ (by first | assumption | exact Ne.symm (by assumption) | omega | (simp only [St.set_n, St.new_n] at *; omega))])) <;> first | assumption | rfl | exact St.new_same _ _ | exact St.set_same _ _ _)⟩ ?_
    clear f1 f2
    rintro j p σ1 ⟨hjl, hp, h2, hr, g5⟩
    have hs1 : σ.n < σ1.n := by have := h2; simp only [St.new_n, St.set_n] at this; omega
    have d1 : Df σ.n (σ.new (.cells (A.agg [.int .i64 v, .str s, .sl .no 3 (Ty.as l)]).cells)).n := Df.lt (by first | omega | (simp only [St.set_n, St.new_n]; omega) | (simp only [St.set_n, St.new_n] at *; omega))
    have hVl : V.length ≤ 1000000 := by simp at hvl ⊢; try omega
    by_cases hj : j < V.length
    · have g1 : decide ((j : Int) < ((intsA V).length : Int)) = true := by rw [intsA_len]; exact decide_eq_true (by omega)
      have g2 : IntKind.i64.wrap ((j : Int) + 1) = (j : Int) + 1 := w64 (by omega) (by omega)
      have hup : intsA (upto (j + 1)) = intsA (upto j) ++ [.int .i64 ((j : Int) + 1)] := by rw [upto_succ]; simp [intsA]
      have hil2 : (intsA (upto j)).length = j := by rw [intsA_len, upto_len]
      rcases hp with ⟨hj0, rfl⟩ | ⟨hj0, hg⟩
      · subst hj0
        conv => whnf
        repeat' ((first | refine Bc_t ?_ | refine Bc_f ?_ | rw [g1] | rw [g2] | rw [g3] | rw [g4] | rw [g5] | rw [g6] | rw [g7] | rw [g8] | rw [g9] | rw [hr] | refine And.intro (by first | omega | assumption | exact Or.inl (by first | rfl | exact Or.inl rfl | exact Or.inr rfl | exact Or.inr (Or.inl rfl) | exact Or.inr (Or.inr rfl)) | (intro _ _; exact Or.inl (by first | rfl | exact Or.inl rfl | exact Or.inr rfl | exact Or.inr (Or.inl rfl) | exact Or.inr (Or.inr rfl))) | (simp only [St.set_n, St.new_n] at *; omega) | (simp; done) | (simp; omega) | (intro _ _; first | assumption | exact Or.inr (by first | omega | (simp only [St.set_n, St.new_n] at *; omega)) | (simp only [St.set_n, St.new_n] at *; omega)) | (intro _ _; exact ⟨Or.inr (by first | omega | (simp only [St.set_n, St.new_n] at *; omega)), by first | exact id | exact Nat.lt_irrefl _ | omega | (show ¬ (_ : Nat) < _; simp only [St.set_n, St.new_n]; omega)⟩) | (intro _ _; first | omega | exact Or.inl rfl) | (intro _; show (_ : Nat) < _; first | omega | (simp only [St.set_n, St.new_n] at *; omega)) | (intro _; intro _ _; show (_ : Nat) < _; first | omega | (simp only [St.set_n, St.new_n] at *; omega)) | (intro _; intro _ _; assumption) | (intro _; assumption) | (intro _; exact trivial) | (intro _; intro _ _; exact trivial) | (intro _; intro j hj; rfl) | (simp only [List.length_append, List.length_cons, List.length_nil]; omega) | (intro e he; rcases List.mem_singleton.1 he with rfl; exact ⟨rfl, rfl⟩) | exact Or.inr (by first | assumption | omega | (simp only [St.set_n, St.new_n] at *; omega)) | exact (by (repeat (first | rw [St.set_same] | rw [St.new_same] | rw [St.set_ne _ _ (by first | assumption | exact Ne.symm (by assumption) | omega | (simp only [St.set_n, St.new_n] at *; omega))] | rw [St.new_ne _ _ (by first | assumption | exact Ne.symm (by assumption) | omega | (simp only [St.set_n, St.new_n] at *; omega))])) <;> first | assumption | rfl | exact St.new_same _ _ | exact St.set_same _ _ _) | (intro h; cases h)) ?_ | (refine Dc.mk ?_ ?_; (first | rfl | assumption | exact Nat.le_refl _ | exact Nat.le_of_ble_eq_true rfl | omega | (simp; done))) | rw [mapOf_eq (by (repeat (first | rw [St.set_same] | rw [St.new_same] | rw [St.set_ne _ _ (by first | assumption | exact Ne.symm (by assumption) | omega | (simp only [St.set_n, St.new_n] at *; omega))] | rw [St.new_ne _ _ (by first | assumption | exact Ne.symm (by assumption) | omega | (simp only [St.set_n, St.new_n] at *; omega))])) <;> first | assumption | rfl | exact St.new_same _ _ | exact St.set_same _ _ _)] | rw [St.set_same] | rw [St.new_same] | rw [St.set_ne _ _ (by first | assumption | exact Ne.symm (by assumption) | omega | (simp only [St.set_n, St.new_n] at *; omega))] | rw [St.new_ne _ _ (by first | assumption | exact Ne.symm (by assumption) | omega | (simp only [St.set_n, St.new_n] at *; omega))]); conv => whnf)
        refine Next.of (.sl (.tok σ1.n) 1 [.int .i64 (((0 : Nat) : Int) + 1)]) hj ⟨rfl, rfl, rfl, rfl, iEq (by omega), trivial⟩ ⟨hj, .inr ⟨by omega, ?_⟩, (by first | omega | (simp only [St.set_n, St.new_n]; omega) | (simp only [St.set_n, St.new_n] at *; omega)), (by (repeat (first | rw [St.set_same] | rw [St.new_same] | rw [St.set_ne _ _ (by first | assumption | exact Ne.symm (by assumption) | omega | (simp only [St.set_n, St.new_n] at *; omega))] | rw [St.new_ne _ _ (by first | assumption | exact Ne.symm (by assumption) | omega | (simp only [St.set_n, St.new_n] at *; omega))])) <;> first | assumption | rfl | exact St.new_same _ _ | exact St.set_same _ _ _), (by (repeat (first | rw [St.set_same] | rw [St.new_same] | rw [St.set_ne _ _ (by first | assumption | exact Ne.symm (by assumption) | omega | (simp only [St.set_n, St.new_n] at *; omega))] | rw [St.new_ne _ _ (by first | assumption | exact Ne.symm (by assumption) | omega | (simp only [St.set_n, St.new_n] at *; omega))])) <;> first | assumption | rfl | exact St.new_same _ _ | exact St.set_same _ _ _)⟩
        rw [hup]
        exact .inr ⟨_, (by first | omega | (simp only [St.set_n, St.new_n]; omega) | (simp only [St.set_n, St.new_n] at *; omega)), (by first | omega | (simp only [St.set_n, St.new_n]; omega) | (simp only [St.set_n, St.new_n] at *; omega)), (by (repeat (first | rw [St.set_same] | rw [St.new_same] | rw [St.set_ne _ _ (by first | assumption | exact Ne.symm (by assumption) | omega | (simp only [St.set_n, St.new_n] at *; omega))] | rw [St.new_ne _ _ (by first | assumption | exact Ne.symm (by assumption) | omega | (simp only [St.set_n, St.new_n] at *; omega))])) <;> first | assumption | rfl | exact St.new_same _ _ | exact St.set_same _ _ _), rfl⟩
      · rcases hg with ⟨hnil, _⟩ | ⟨t2, t3, t4, t5, rfl⟩
        · rw [hnil] at hil2; simp at hil2; omega
        have d3 : Df σ.n t2 := Df.of (fun e => by subst e; rw [hr] at t5; cases t5)
        have d4 : Df (σ.new (.cells (A.agg [.int .i64 v, .str s, .sl .no 3 (Ty.as l)]).cells)).n t2 := Df.of (fun e => by subst e; rw [g5] at t5; cases t5)
        conv => whnf
        repeat' ((first | refine Bc_t ?_ | refine Bc_f ?_ | rw [g1] | rw [g2] | rw [g3] | rw [g4] | rw [g5] | rw [g6] | rw [g7] | rw [g8] | rw [g9] | rw [hr] | refine And.intro (by first | omega | assumption | exact Or.inl (by first | rfl | exact Or.inl rfl | exact Or.inr rfl | exact Or.inr (Or.inl rfl) | exact Or.inr (Or.inr rfl)) | (intro _ _; exact Or.inl (by first | rfl | exact Or.inl rfl | exact Or.inr rfl | exact Or.inr (Or.inl rfl) | exact Or.inr (Or.inr rfl))) | (simp only [St.set_n, St.new_n] at *; omega) | (simp; done) | (simp; omega) | (intro _ _; first | assumption | exact Or.inr (by first | omega | (simp only [St.set_n, St.new_n] at *; omega)) | (simp only [St.set_n, St.new_n] at *; omega)) | (intro _ _; exact ⟨Or.inr (by first | omega | (simp only [St.set_n, St.new_n] at *; omega)), by first | exact id | exact Nat.lt_irrefl _ | omega | (show ¬ (_ : Nat) < _; simp only [St.set_n, St.new_n]; omega)⟩) | (intro _ _; first | omega | exact Or.inl rfl) | (intro _; show (_ : Nat) < _; first | omega | (simp only [St.set_n, St.new_n] at *; omega)) | (intro _; intro _ _; show (_ : Nat) < _; first | omega | (simp only [St.set_n, St.new_n] at *; omega)) | (intro _; intro _ _; assumption) | (intro _; assumption) | (intro _; exact trivial) | (intro _; intro _ _; exact trivial) | (intro _; intro j hj; rfl) | (simp only [List.length_append, List.length_cons, List.length_nil]; omega) | (intro e he; rcases List.mem_singleton.1 he with rfl; exact ⟨rfl, rfl⟩) | exact Or.inr (by first | assumption | omega | (simp only [St.set_n, St.new_n] at *; omega)) | exact (by (repeat (first | rw [St.set_same] | rw [St.new_same] | rw [St.set_ne _ _ (by first | assumption | exact Ne.symm (by assumption) | omega | (simp only [St.set_n, St.new_n] at *; omega))] | rw [St.new_ne _ _ (by first | assumption | exact Ne.symm (by assumption) | omega | (simp only [St.set_n, St.new_n] at *; omega))])) <;> first | assumption | rfl | exact St.new_same _ _ | exact St.set_same _ _ _) | (intro h; cases h)) ?_ | (refine Dc.mk ?_ ?_; (first | rfl | assumption | exact Nat.le_refl _ | exact Nat.le_of_ble_eq_true rfl | omega | (simp; done))) | rw [mapOf_eq (by (repeat (first | rw [St.set_same] | rw [St.new_same] | rw [St.set_ne _ _ (by first | assumption | exact Ne.symm (by assumption) | omega | (simp only [St.set_n, St.new_n] at *; omega))] | rw [St.new_ne _ _ (by first | assumption | exact Ne.symm (by assumption) | omega | (simp only [St.set_n, St.new_n] at *; omega))])) <;> first | assumption | rfl | exact St.new_same _ _ | exact St.set_same _ _ _)] | rw [St.set_same] | rw [St.new_same] | rw [St.set_ne _ _ (by first | assumption | exact Ne.symm (by assumption) | omega | (simp only [St.set_n, St.new_n] at *; omega))] | rw [St.new_ne _ _ (by first | assumption | exact Ne.symm (by assumption) | omega | (simp only [St.set_n, St.new_n] at *; omega))]); conv => whnf)
        refine Next.of (.sl (.tok t2) 1 (intsA (upto j) ++ [.int .i64 ((j : Int) + 1)])) hj ⟨rfl, rfl, rfl, rfl, iEq (by omega), trivial⟩ ⟨hj, .inr ⟨by omega, ?_⟩, (by first | omega | (simp only [St.set_n, St.new_n]; omega) | (simp only [St.set_n, St.new_n] at *; omega)), (by (repeat (first | rw [St.set_same] | rw [St.new_same] | rw [St.set_ne _ _ (by first | assumption | exact Ne.symm (by assumption) | omega | (simp only [St.set_n, St.new_n] at *; omega))] | rw [St.new_ne _ _ (by first | assumption | exact Ne.symm (by assumption) | omega | (simp only [St.set_n, St.new_n] at *; omega))])) <;> first | assumption | rfl | exact St.new_same _ _ | exact St.set_same _ _ _), (by (repeat (first | rw [St.set_same] | rw [St.new_same] | rw [St.set_ne _ _ (by first | assumption | exact Ne.symm (by assumption) | omega | (simp only [St.set_n, St.new_n] at *; omega))] | rw [St.new_ne _ _ (by first | assumption | exact Ne.symm (by assumption) | omega | (simp only [St.set_n, St.new_n] at *; omega))])) <;> first | assumption | rfl | exact St.new_same _ _ | exact St.set_same _ _ _)⟩
        rw [hup]
        exact .inr ⟨t2, t3, (by first | omega | (simp only [St.set_n, St.new_n]; omega) | (simp only [St.set_n, St.new_n] at *; omega)), (by (repeat (first | rw [St.set_same] | rw [St.new_same] | rw [St.set_ne _ _ (by first | assumption | exact Ne.symm (by assumption) | omega | (simp only [St.set_n, St.new_n] at *; omega))] | rw [St.new_ne _ _ (by first | assumption | exact Ne.symm (by assumption) | omega | (simp only [St.set_n, St.new_n] at *; omega))])) <;> first | assumption | rfl | exact St.new_same _ _ | exact St.set_same _ _ _), rfl⟩
    · obtain rfl : j = V.length := by omega
      have g1 : decide (((V.length : Nat) : Int) < ((intsA V).length : Int)) = false := by rw [intsA_len]; exact decide_eq_false (by omega)
      have hpl : Le p (.sl .no 1 (intsA (upto V.length))) := by
        rcases hp with ⟨hj0, rfl⟩ | ⟨_, hg⟩
        · first | exact Le.own _ _ _ | (rw [hj0]; exact Le.own _ _ _)
        · exact hg.le
      conv => whnf
      repeat' ((first | refine Bc_t ?_ | refine Bc_f ?_ | rw [g1] | rw [g2] | rw [g3] | rw [g4] | rw [g5] | rw [g6] | rw [g7] | rw [g8] | rw [g9] | rw [hr] | refine And.intro (by first | omega | assumption | exact Or.inl (by first | rfl | exact Or.inl rfl | exact Or.inr rfl | exact Or.inr (Or.inl rfl) | exact Or.inr (Or.inr rfl)) | (intro _ _; exact Or.inl (by first | rfl | exact Or.inl rfl | exact Or.inr rfl | exact Or.inr (Or.inl rfl) | exact Or.inr (Or.inr rfl))) | (simp only [St.set_n, St.new_n] at *; omega) | (simp; done) | (simp; omega) | (intro _ _; first | assumption | exact Or.inr (by first | omega | (simp only [St.set_n, St.new_n] at *; omega)) | (simp only [St.set_n, St.new_n] at *; omega)) | (intro _ _; exact ⟨Or.inr (by first | omega | (simp only [St.set_n, St.new_n] at *; omega)), by first | exact id | exact Nat.lt_irrefl _ | omega | (show ¬ (_ : Nat) < _; simp only [St.set_n, St.new_n]; omega)⟩) | (intro _ _; first | omega | exact Or.inl rfl) | (intro _; show (_ : Nat) < _; first | omega | (simp only [St.set_n, St.new_n] at *; omega)) | (intro _; intro _ _; show (_ : Nat) < _; first | omega | (simp only [St.set_n, St.new_n] at *; omega)) | (intro _; intro _ _; assumption) | (intro _; assumption) | (intro _; exact trivial) | (intro _; intro _ _; exact trivial) | (intro _; intro j hj; rfl) | (simp only [List.length_append, List.length_cons, List.length_nil]; omega) | (intro e he; rcases List.mem_singleton.1 he with rfl; exact ⟨rfl, rfl⟩) | exact Or.inr (by first | assumption | omega | (simp only [St.set_n, St.new_n] at *; omega)) | exact (by (repeat (first | rw [St.set_same] | rw [St.new_same] | rw [St.set_ne _ _ (by first | assumption | exact Ne.symm (by assumption) | omega | (simp only [St.set_n, St.new_n] at *; omega))] | rw [St.new_ne _ _ (by first | assumption | exact Ne.symm (by assumption) | omega | (simp only [St.set_n, St.new_n] at *; omega))])) <;> first | assumption | rfl | exact St.new_same _ _ | exact St.set_same _ _ _) | (intro h; cases h)) ?_ | (refine Dc.mk ?_ ?_; (first | rfl | assumption | exact Nat.le_refl _ | exact Nat.le_of_ble_eq_true rfl | omega | (simp; done))) | rw [mapOf_eq (by (repeat (first | rw [St.set_same] | rw [St.new_same] | rw [St.set_ne _ _ (by first | assumption | exact Ne.symm (by assumption) | omega | (simp only [St.set_n, St.new_n] at *; omega))] | rw [St.new_ne _ _ (by first | assumption | exact Ne.symm (by assumption) | omega | (simp only [St.set_n, St.new_n] at *; omega))])) <;> first | assumption | rfl | exact St.new_same _ _ | exact St.set_same _ _ _)] | rw [St.set_same] | rw [St.new_same] | rw [St.set_ne _ _ (by first | assumption | exact Ne.symm (by assumption) | omega | (simp only [St.set_n, St.new_n] at *; omega))] | rw [St.new_ne _ _ (by first | assumption | exact Ne.symm (by assumption) | omega | (simp only [St.set_n, St.new_n] at *; omega))]); conv => whnf)
      refine ACallsW.of ((hren _ Non).args rfl (fun i c c' q q' => by
        match i with
        | 0 => injection q with q; injection q' with q'; subst q q'; exact Le.refl _
        | 1 => injection q with q; injection q' with q'; subst q q'; exact hle
        | 2 => injection q with q; injection q' with q'; subst q q'; exact hpl
        | i + 3 => cases q)) (fun _ _ _ h => h.elim) ?_
      rintro _ σ3 _ ⟨e1, rfl⟩
      have e2 := e1.symm
      subst e2
      conv => whnf
      repeat' ((first | refine Bc_t ?_ | refine Bc_f ?_ | rw [g1] | rw [g2] | rw [g3] | rw [g4] | rw [g5] | rw [g6] | rw [g7] | rw [g8] | rw [g9] | rw [hr] | refine And.intro (by first | omega | assumption | exact Or.inl (by first | rfl | exact Or.inl rfl | exact Or.inr rfl | exact Or.inr (Or.inl rfl) | exact Or.inr (Or.inr rfl)) | (intro _ _; exact Or.inl (by first | rfl | exact Or.inl rfl | exact Or.inr rfl | exact Or.inr (Or.inl rfl) | exact Or.inr (Or.inr rfl))) | (simp only [St.set_n, St.new_n] at *; omega) | (simp; done) | (simp; omega) | (intro _ _; first | assumption | exact Or.inr (by first | omega | (simp only [St.set_n, St.new_n] at *; omega)) | (simp only [St.set_n, St.new_n] at *; omega)) | (intro _ _; exact ⟨Or.inr (by first | omega | (simp only [St.set_n, St.new_n] at *; omega)), by first | exact id | exact Nat.lt_irrefl _ | omega | (show ¬ (_ : Nat) < _; simp only [St.set_n, St.new_n]; omega)⟩) | (intro _ _; first | omega | exact Or.inl rfl) | (intro _; show (_ : Nat) < _; first | omega | (simp only [St.set_n, St.new_n] at *; omega)) | (intro _; intro _ _; show (_ : Nat) < _; first | omega | (simp only [St.set_n, St.new_n] at *; omega)) | (intro _; intro _ _; assumption) | (intro _; assumption) | (intro _; exact trivial) | (intro _; intro _ _; exact trivial) | (intro _; intro j hj; rfl) | (simp only [List.length_append, List.length_cons, List.length_nil]; omega) | (intro e he; rcases List.mem_singleton.1 he with rfl; exact ⟨rfl, rfl⟩) | exact Or.inr (by first | assumption | omega | (simp only [St.set_n, St.new_n] at *; omega)) | exact (by (repeat (first | rw [St.set_same] | rw [St.new_same] | rw [St.set_ne _ _ (by first | assumption | exact Ne.symm (by assumption) | omega | (simp only [St.set_n, St.new_n] at *; omega))] | rw [St.new_ne _ _ (by first | assumption | exact Ne.symm (by assumption) | omega | (simp only [St.set_n, St.new_n] at *; omega))])) <;> first | assumption | rfl | exact St.new_same _ _ | exact St.set_same _ _ _) | (intro h; cases h)) ?_ | (refine Dc.mk ?_ ?_; (first | rfl | assumption | exact Nat.le_refl _ | exact Nat.le_of_ble_eq_true rfl | omega | (simp; done))) | rw [mapOf_eq (by (repeat (first | rw [St.set_same] | rw [St.new_same] | rw [St.set_ne _ _ (by first | assumption | exact Ne.symm (by assumption) | omega | (simp only [St.set_n, St.new_n] at *; omega))] | rw [St.new_ne _ _ (by first | assumption | exact Ne.symm (by assumption) | omega | (simp only [St.set_n, St.new_n] at *; omega))])) <;> first | assumption | rfl | exact St.new_same _ _ | exact St.set_same _ _ _)] | rw [St.set_same] | rw [St.new_same] | rw [St.set_ne _ _ (by first | assumption | exact Ne.symm (by assumption) | omega | (simp only [St.set_n, St.new_n] at *; omega))] | rw [St.new_ne _ _ (by first | assumption | exact Ne.symm (by assumption) | omega | (simp only [St.set_n, St.new_n] at *; omega))]); conv => whnf)
      exact Fin.of (EPl.str (Ty.str _ (.mk v2 s2 l2)))
  · skip
    conv => whnf
    repeat' ((first | refine Bc_t ?_ | refine Bc_f ?_ | rw [g1] | rw [g2] | rw [g3] | rw [g4] | rw [g5] | rw [g6] | rw [g7] | rw [g8] | rw [g9] | rw [hr] | refine And.intro (by first | omega | assumption | exact Or.inl (by first | rfl | exact Or.inl rfl | exact Or.inr rfl | exact Or.inr (Or.inl rfl) | exact Or.inr (Or.inr rfl)) | (intro _ _; exact Or.inl (by first | rfl | exact Or.inl rfl | exact Or.inr rfl | exact Or.inr (Or.inl rfl) | exact Or.inr (Or.inr rfl))) | (simp only [St.set_n, St.new_n] at *; omega) | (simp; done) | (simp; omega) | (intro _ _; first | assumption | exact Or.inr (by first | omega | (simp only [St.set_n, St.new_n] at *; omega)) | (simp only [St.set_n, St.new_n] at *; omega)) | (intro _ _; exact ⟨Or.inr (by first | omega | (simp only [St.set_n, St.new_n] at *; omega)), by first | exact id | exact Nat.lt_irrefl _ | omega | (show ¬ (_ : Nat) < _; simp only [St.set_n, St.new_n]; omega)⟩) | (intro _ _; first | omega | exact Or.inl rfl) | (intro _; show (_ : Nat) < _; first | omega | (simp only [St.set_n, St.new_n] at *; omega)) | (intro _; intro _ _; show (_ : Nat) < _; first | omega | (simp only [St.set_n, St.new_n] at *; omega)) | (intro _; intro _ _; assumption) | (intro _; assumption) | (intro _; exact trivial) | (intro _; intro _ _; exact trivial) | (intro _; intro j hj; rfl) | (simp only [List.length_append, List.length_cons, List.length_nil]; omega) | (intro e he; rcases List.mem_singleton.1 he with rfl; exact ⟨rfl, rfl⟩) | exact Or.inr (by first | assumption | omega | (simp only [St.set_n, St.new_n] at *; omega)) | exact (by (repeat (first | rw [St.set_same] | rw [St.new_same] | rw [St.set_ne _ _ (by first | assumption | exact Ne.symm (by assumption) | omega | (simp only [St.set_n, St.new_n] at *; omega))] | rw [St.new_ne _ _ (by first | assumption | exact Ne.symm (by assumption) | omega | (simp only [St.set_n, St.new_n] at *; omega))])) <;> first | assumption | rfl | exact St.new_same _ _ | exact St.set_same _ _ _) | (intro h; cases h)) ?_ | (refine Dc.mk ?_ ?_; (first | rfl | assumption | exact Nat.le_refl _ | exact Nat.le_of_ble_eq_true rfl | omega | (simp; done))) | rw [mapOf_eq (by (repeat (first | rw [St.set_same] | rw [St.new_same] | rw [St.set_ne _ _ (by first | assumption | exact Ne.symm (by assumption) | omega | (simp only [St.set_n, St.new_n] at *; omega))] | rw [St.new_ne _ _ (by first | assumption | exact Ne.symm (by assumption) | omega | (simp only [St.set_n, St.new_n] at *; omega))])) <;> first | assumption | rfl | exact St.new_same _ _ | exact St.set_same _ _ _)] | rw [St.set_same] | rw [St.new_same] | rw [St.set_ne _ _ (by first | assumption | exact Ne.symm (by assumption) | omega | (simp only [St.set_n, St.new_n] at *; omega))] | rw [St.new_ne _ _ (by first | assumption | exact Ne.symm (by assumption) | omega | (simp only [St.set_n, St.new_n] at *; omega))]); conv => whnf)
    refine ALoop.range ([] : List Int).length (fun j (p : A) => [(1, .ptr σ.n 0), (2, .ptr (σ.new (.cells (A.agg [.int .i64 v, .str s, .sl .no 3 (Ty.as l)]).cells)).n 0), (3, .nils), (4, p), (5, .int .i64 j)])
      (fun j p σ1 => j ≤ ([] : List Int).length ∧ (j = 0 ∧ p = .sl .full 1 [] ∨ 0 < j ∧ Grow σ.n 1 σ1 (intsA (upto j)) p) ∧ (σ.new (.cells (A.agg [.int .i64 v, .str s, .sl .no 3 (Ty.as l)]).cells)).n < σ1.n ∧ σ1.obj σ.n = .cells [.int .i64 v, .str s, .sl .no 3 (Ty.as l)] ∧ σ1.obj (σ.new (.cells (A.agg [.int .i64 v, .str s, .sl .no 3 (Ty.as l)]).cells)).n = .cells [.int .i64 0, .str [], .nils]) (.sl .full 1 []) ⟨rfl, rfl, rfl, rfl, rfl, trivial⟩ ⟨by omega, .inl ⟨rfl, rfl⟩, (by first | omega | (simp only [St.set_n, St.new_n]; omega) | (simp only [St.set_n, St.new_n] at *; omega)), (by (repeat (first | rw [St.set_same] | rw [St.new_same] | rw [St.set_ne _ _ (by first | assumption | exact Ne.symm (by assumption) | omega | (simp only [St.set_n, St.new_n] at *; omega))] | rw [St.new_ne _ _ (by first | assumption | exact Ne.symm (by assumption) | omega | (simp only [St.set_n, St.new_n] at *; omega))])) <;> first | assumption | rfl | exact St.new_same _ _ | exact St.set_same _ _ _), (by (repeat (first | rw [St.set_same] | rw [St.new_same] | rw [St.set_ne _ _ (by first | assumption | exact Ne.symm (by assumption) | omega | (simp only [St.set_n, St.new_n] at *; omega))] | rw [St.new_ne _ _ (by first | assumption | exact Ne.symm (by assumption) | omega | (simp only [St.set_n, St.new_n] at *; omega))])) <;> first | assumption | rfl | exact St.new_same _ _ | exact St.set_same _ _ _)⟩ ?_
    clear f1 f2
    rintro j p σ1 ⟨hjl, hp, h2, hr, g5⟩
    have hs1 : σ.n < σ1.n := by have := h2; simp only [St.new_n, St.set_n] at this; omega
    have d1 : Df σ.n (σ.new (.cells (A.agg [.int .i64 v, .str s, .sl .no 3 (Ty.as l)]).cells)).n := Df.lt (by first | omega | (simp only [St.set_n, St.new_n]; omega) | (simp only [St.set_n, St.new_n] at *; omega))
    have hVl : ([] : List Int).length ≤ 1000000 := by simp at hvl ⊢; try omega
    by_cases hj : j < ([] : List Int).length
    · exact absurd hj (by simp)
    · obtain rfl : j = 0 := by simpa using hjl
      have g1 : decide (((0 : Nat) : Int) < ((intsA ([] : List Int)).length : Int)) = false := by rw [intsA_len]; exact decide_eq_false (by omega)
      have hpl : Le p (.sl .no 1 (intsA (upto ([] : List Int).length))) := by
        rcases hp with ⟨hj0, rfl⟩ | ⟨_, hg⟩
        · first | exact Le.own _ _ _ | (rw [hj0]; exact Le.own _ _ _)
        · exact hg.le
      conv => whnf
      repeat' ((first | refine Bc_t ?_ | refine Bc_f ?_ | rw [g1] | rw [g2] | rw [g3] | rw [g4] | rw [g5] | rw [g6] | rw [g7] | rw [g8] | rw [g9] | rw [hr] | refine And.intro (by first | omega | assumption | exact Or.inl (by first | rfl | exact Or.inl rfl | exact Or.inr rfl | exact Or.inr (Or.inl rfl) | exact Or.inr (Or.inr rfl)) | (intro _ _; exact Or.inl (by first | rfl | exact Or.inl rfl | exact Or.inr rfl | exact Or.inr (Or.inl rfl) | exact Or.inr (Or.inr rfl))) | (simp only [St.set_n, St.new_n] at *; omega) | (simp; done) | (simp; omega) | (intro _ _; first | assumption | exact Or.inr (by first | omega | (simp only [St.set_n, St.new_n] at *; omega)) | (simp only [St.set_n, St.new_n] at *; omega)) | (intro _ _; exact ⟨Or.inr (by first | omega | (simp only [St.set_n, St.new_n] at *; omega)), by first | exact id | exact Nat.lt_irrefl _ | omega | (show ¬ (_ : Nat) < _; simp only [St.set_n, St.new_n]; omega)⟩) | (intro _ _; first | omega | exact Or.inl rfl) | (intro _; show (_ : Nat) < _; first | omega | (simp only [St.set_n, St.new_n] at *; omega)) | (intro _; intro _ _; show (_ : Nat) < _; first | omega | (simp only [St.set_n, St.new_n] at *; omega)) | (intro _; intro _ _; assumption) | (intro _; assumption) | (intro _; exact trivial) | (intro _; intro _ _; exact trivial) | (intro _; intro j hj; rfl) | (simp only [List.length_append, List.length_cons, List.length_nil]; omega) | (intro e he; rcases List.mem_singleton.1 he with rfl; exact ⟨rfl, rfl⟩) | exact Or.inr (by first | assumption | omega | (simp only [St.set_n, St.new_n] at *; omega)) | exact (by (repeat (first | rw [St.set_same] | rw [St.new_same] | rw [St.set_ne _ _ (by first | assumption | exact Ne.symm (by assumption) | omega | (simp only [St.set_n, St.new_n] at *; omega))] | rw [St.new_ne _ _ (by first | assumption | exact Ne.symm (by assumption) | omega | (simp only [St.set_n, St.new_n] at *; omega))])) <;> first | assumption | rfl | exact St.new_same _ _ | exact St.set_same _ _ _) | (intro h; cases h)) ?_ | (refine Dc.mk ?_ ?_; (first | rfl | assumption | exact Nat.le_refl _ | exact Nat.le_of_ble_eq_true rfl | omega | (simp; done))) | rw [mapOf_eq (by (repeat (first | rw [St.set_same] | rw [St.new_same] | rw [St.set_ne _ _ (by first | assumption | exact Ne.symm (by assumption) | omega | (simp only [St.set_n, St.new_n] at *; omega))] | rw [St.new_ne _ _ (by first | assumption | exact Ne.symm (by assumption) | omega | (simp only [St.set_n, St.new_n] at *; omega))])) <;> first | assumption | rfl | exact St.new_same _ _ | exact St.set_same _ _ _)] | rw [St.set_same] | rw [St.new_same] | rw [St.set_ne _ _ (by first | assumption | exact Ne.symm (by assumption) | omega | (simp only [St.set_n, St.new_n] at *; omega))] | rw [St.new_ne _ _ (by first | assumption | exact Ne.symm (by assumption) | omega | (simp only [St.set_n, St.new_n] at *; omega))]); conv => whnf)
      refine ACallsW.of ((hren _ Non).args rfl (fun i c c' q q' => by
        match i with
        | 0 => injection q with q; injection q' with q'; subst q q'; exact Le.refl _
        | 1 => injection q with q; injection q' with q'; subst q q'; exact hle
        | 2 => injection q with q; injection q' with q'; subst q q'; exact hpl
        | i + 3 => cases q)) (fun _ _ _ h => h.elim) ?_
      rintro _ σ3 _ ⟨e1, rfl⟩
      have e2 := e1.symm
      subst e2
      conv => whnf
      repeat' ((first | refine Bc_t ?_ | refine Bc_f ?_ | rw [g1] | rw [g2] | rw [g3] | rw [g4] | rw [g5] | rw [g6] | rw [g7] | rw [g8] | rw [g9] | rw [hr] | refine And.intro (by first | omega | assumption | exact Or.inl (by first | rfl | exact Or.inl rfl | exact Or.inr rfl | exact Or.inr (Or.inl rfl) | exact Or.inr (Or.inr rfl)) | (intro _ _; exact Or.inl (by first | rfl | exact Or.inl rfl | exact Or.inr rfl | exact Or.inr (Or.inl rfl) | exact Or.inr (Or.inr rfl))) | (simp only [St.set_n, St.new_n] at *; omega) | (simp; done) | (simp; omega) | (intro _ _; first | assumption | exact Or.inr (by first | omega | (simp only [St.set_n, St.new_n] at *; omega)) | (simp only [St.set_n, St.new_n] at *; omega)) | (intro _ _; exact ⟨Or.inr (by first | omega | (simp only [St.set_n, St.new_n] at *; omega)), by first | exact id | exact Nat.lt_irrefl _ | omega | (show ¬ (_ : Nat) < _; simp only [St.set_n, St.new_n]; omega)⟩) | (intro _ _; first | omega | exact Or.inl rfl) | (intro _; show (_ : Nat) < _; first | omega | (simp only [St.set_n, St.new_n] at *; omega)) | (intro _; intro _ _; show (_ : Nat) < _; first | omega | (simp only [St.set_n, St.new_n] at *; omega)) | (intro _; intro _ _; assumption) | (intro _; assumption) | (intro _; exact trivial) | (intro _; intro _ _; exact trivial) | (intro _; intro j hj; rfl) | (simp only [List.length_append, List.length_cons, List.length_nil]; omega) | (intro e he; rcases List.mem_singleton.1 he with rfl; exact ⟨rfl, rfl⟩) | exact Or.inr (by first | assumption | omega | (simp only [St.set_n, St.new_n] at *; omega)) | exact (by (repeat (first | rw [St.set_same] | rw [St.new_same] | rw [St.set_ne _ _ (by first | assumption | exact Ne.symm (by assumption) | omega | (simp only [St.set_n, St.new_n] at *; omega))] | rw [St.new_ne _ _ (by first | assumption | exact Ne.symm (by assumption) | omega | (simp only [St.set_n, St.new_n] at *; omega))])) <;> first | assumption | rfl | exact St.new_same _ _ | exact St.set_same _ _ _) | (intro h; cases h)) ?_ | (refine Dc.mk ?_ ?_; (first | rfl | assumption | exact Nat.le_refl _ | exact Nat.le_of_ble_eq_true rfl | omega | (simp; done))) | rw [mapOf_eq (by (repeat (first | rw [St.set_same] | rw [St.new_same] | rw [St.set_ne _ _ (by first | assumption | exact Ne.symm (by assumption) | omega | (simp only [St.set_n, St.new_n] at *; omega))] | rw [St.new_ne _ _ (by first | assumption | exact Ne.symm (by assumption) | omega | (simp only [St.set_n, St.new_n] at *; omega))])) <;> first | assumption | rfl | exact St.new_same _ _ | exact St.set_same _ _ _)] | rw [St.set_same] | rw [St.new_same] | rw [St.set_ne _ _ (by first | assumption | exact Ne.symm (by assumption) | omega | (simp only [St.set_n, St.new_n] at *; omega))] | rw [St.new_ne _ _ (by first | assumption | exact Ne.symm (by assumption) | omega | (simp only [St.set_n, St.new_n] at *; omega))]); conv => whnf)
      exact Fin.of (EPl.str (Ty.str _ (.mk v2 s2 l2)))
end
end Go.Proofs.YtkpijfgananjjaaDoor.Ga
