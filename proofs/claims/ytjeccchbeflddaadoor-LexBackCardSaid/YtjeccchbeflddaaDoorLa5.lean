/- The lexer's reader: texts. -/
import Derived.Test.YtjeccchbeflddaaDoorLa4
set_option linter.unusedVariables false
set_option linter.unusedSimpArgs false
namespace Go.Proofs.YtjeccchbeflddaaDoor.Ga
open Lx

theorem ACalls.frame {P : Program} {f : FuncId} {args : List A} {σ : St} {m m' : Nat → Nat → Prop} {R : AEnd → St → Prop} (h : ACalls P f args σ m R) (hm : ∀ id off, id < σ.n → m id off → m' id off) : ACalls P f args σ m' R :=
  fun x vs hx hσ hl hv => (h x vs hx hσ hl hv).mono fun e w' ⟨y, h1, h2, h3, ae, h4, h5⟩ => ⟨y, h1, h2.mono (fun id off hid => hm id off (hσ ▸ hid)), h3, ae, h4, h5⟩

/-- A slice of bytes that grows: its token is newer than n. -/
def Buf (n : Nat) (σ : St) (v : List UInt8) (b : A) : Prop := (v = [] ∧ b = .nils) ∨ ∃ t, n ≤ t ∧ t < σ.n ∧ σ.obj t = .row (bs v).length ∧ b = .sl (.tok t) 1 (bs v)

theorem bs_len (v : List UInt8) : (bs v).length = v.length := by simp [bs]
theorem bs_snoc (v : List UInt8) (c : UInt8) : bs v ++ [.int .u8 c.toNat] = bs (v ++ [c]) := by simp [bs]

theorem sl_snoc {t : Nat} {v : List UInt8} {x : UInt8} : some (A.sl (.tok t) 1 (bs v ++ [.int .u8 x.toNat])) = some (A.sl (.tok t) 1 (bs (v ++ [x]))) := by rw [bs_snoc]
theorem row_snoc {v : List UInt8} {x : UInt8} : AO.row (bs v ++ [A.int .u8 x.toNat]).length = .row (bs (v ++ [x])).length := by rw [bs_snoc]

/-- Whoever may write r's place, and what is newer than n. -/
def AtNew (r n : Nat) : Nat → Nat → Prop := fun id off => AtOf r id off ∨ n ≤ id

section
attribute [local irreducible] Bc ACallsW ALoop Fin St.set St.new
theorem text_raw (s : List UInt8) (at_ : Nat) (out : A) (r : Nat) (σ : St) (hs : s.length ≤ 4096) (hat : at_ < s.length) (hrn : r < σ.n) (hr : σ.obj r = rd s at_ out) :
    ACalls Tryd.prog 41 [.ptr r 0] σ (AtNew r σ.n) (fun e σ' => match txt 0 0 (s.drop (at_ + 1)) with
      | some (v, l) => σ'.obj r = rd s (s.length - l.length) out ∧ e = .ret (.str v)
      | none => e = .pan (bad 20 at_)) := by
  unfold rd at *
  refine acalls_go mixed Tryd.func41 c_text_ok (Nat.le_of_ble_eq_true rfl) ?_
  conv => whnf
  repeat' (first
      | (refine Bc_t ?_; conv => whnf)
      | (refine Bc_f ?_; conv => whnf)
      | (rw [g1]; conv => whnf)
      | (rw [g2]; conv => whnf)
      | (rw [g3]; conv => whnf)
      | (rw [g4]; conv => whnf)
      | (rw [g5]; conv => whnf)
      | (rw [g6]; conv => whnf)
      | (rw [hr]; conv => whnf)
      | (refine Bc_split (fun hb => ?_) (fun hb => ?_) <;> (rw [hb]; conv => whnf))
      | (refine And.intro (by first
          | omega
          | assumption
          | (simp only [St.set_n, St.new_n] at *; omega)
          | (simp; done)
          | (simp; omega)
          | (intro _; exact trivial)
          | (intro _; intro _ _; exact trivial)
          | (intro _; intro j hj; first | rfl | (have hj' : j < 1 := hj
                                                 obtain rfl : j = 0 := by omega
                                                 exact ⟨rfl, rfl⟩))
          | (intro j hj; obtain rfl : j = 0 := by omega
             first | exact ⟨rfl, rfl⟩ | exact .inl ⟨rfl, rfl⟩ | exact .inr (by omega) | exact ⟨by assumption, by assumption⟩ | assumption | trivial)
          | exact .inr (by assumption)
          | (intro j hj; exact .inr (by simp only [St.set_n, St.new_n] at *; omega))
          | (intro e he; rcases List.mem_singleton.1 he with rfl; exact ⟨rfl, rfl⟩)
          | (rw [St.set_ne _ _ (by first | assumption | omega | (simp only [St.set_n, St.new_n] at *; omega))]; assumption)
          | (rw [St.set_ne _ _ (by first | assumption | omega | (simp only [St.set_n, St.new_n] at *; omega)), St.set_ne _ _ (by first | assumption | omega | (simp only [St.set_n, St.new_n] at *; omega))]; assumption)
          | (simp only [decide_eq_true_eq, decide_eq_false_iff_not, Bool.not_eq_true, beq_iff_eq, beq_eq_false_iff_ne, ne_eq, ge_iff_le, gt_iff_lt] at *; omega)) ?_; conv => whnf)
      | (rw [St.set_same]; conv => whnf)
      | (rw [St.new_same]; conv => whnf)
      | (rw [St.set_ne _ _ (by first | assumption | omega | (simp only [St.set_n, St.new_n] at *; omega))]; conv => whnf)
      | (rw [St.new_ne _ _ (by first | assumption | omega | (simp only [St.set_n, St.new_n] at *; omega))]; conv => whnf))
  unfold ALoop
  refine ⟨fun k env σ1 => ∃ (i : Nat) (v : List UInt8) (b : A), k = s.length - i ∧ i ≤ s.length ∧ txt 0 0 (s.drop (at_ + 1)) = (txt 0 0 (s.drop i)).map (fun p => (v ++ p.1, p.2)) ∧ v.length ≤ i ∧ σ.n ≤ σ1.n ∧ σ1.obj r = rd s i out ∧ Buf σ.n σ1 v b ∧
      env = [(0, .ptr r 0), (3, .int .i64 at_), (4, b)], _,
    [(0, .ptr r 0), (3, .int .i64 at_), (4, .nils)], ⟨rfl, rfl, rfl, trivial⟩, ⟨at_ + 1, [], .nils, rfl, by omega, by cases txt 0 0 (s.drop (at_ + 1)) <;> rfl, by simp, by rw [St.set_n]; exact Nat.le_refl _, ?_, .inl ⟨rfl, rfl⟩, rfl⟩, ?_⟩
  · rw [St.set_same]
    exact rd_eq (by rw [w64 (by omega) (by omega)]; omega)
  rintro k env σ1 ⟨i, v, b, rfl, h1, h2, h3, h4, hr1, hbuf, rfl⟩
  unfold rd at *
  have hr' := hr
  clear hr
  have hr := hr1
  have hnil : i = s.length → txt 0 0 (s.drop (at_ + 1)) = none := fun q => by rw [h2, q, List.drop_length, txt_nil]; rfl
  have hone : i < s.length → s.drop i = s.getD i 0 :: s.drop (i + 1) := fun q => one_drop q
  have hq : ∀ k : UInt8, (((s.getD (i : Int).toNat 0).toNat : Int) == (k.toNat : Int)) = true → s.getD i 0 = k := fun k h => UInt8.toNat_inj.1 (by have := beq_iff_eq.1 h; have h' : (i : Int).toNat = i := rfl; rw [h'] at this; omega)
  have hq' : ∀ k : UInt8, (((s.getD (i : Int).toNat 0).toNat : Int) == (k.toNat : Int)) = false → (s.getD i 0 == k) = false := fun k h => by
    rw [beq_eq_false_iff_ne] at h ⊢
    intro q
    exact h (by rw [← q]; rfl)
  have hget : i < s.length → s.getD i 0 = 34 → txt 0 0 (s.drop (at_ + 1)) = some (v, s.drop (i + 1)) := fun q e => by
    rw [h2, hone q, e, txt0, if_pos (by decide)]; simp
  have hesc : i < s.length → s.getD i 0 = 92 → txt 0 0 (s.drop (at_ + 1)) = match form (s.drop (i + 1)) with | none => none | some (x, l) => (txt 0 0 l).map (fun p => ((v ++ [x]) ++ p.1, p.2)) := fun q e => by
    rw [h2, hone q, e, txt0, if_neg (by decide), if_pos (by decide), txt_form]
    cases form (s.drop (i + 1)) with
    | none => rfl
    | some p => simp only [Option.map_map]; congr 1; funext p; simp
  have hoth : i < s.length → (s.getD i 0 == 34) = false → (s.getD i 0 == 92) = false → txt 0 0 (s.drop (at_ + 1)) = (txt 0 0 (s.drop (i + 1))).map (fun p => ((v ++ [s.getD i 0]) ++ p.1, p.2)) := fun q e1 e2 => by
    rw [h2, hone q, txt0, if_neg (by rw [e1]; simp), if_neg (by rw [e2]; simp), Option.map_map]
    congr 1
    funext p
    simp
  have hbl := bs_len v
  rcases hbuf with ⟨rfl, rfl⟩ | ⟨t, ht1, ht2, ht3, rfl⟩
  · conv => whnf
    repeat' (first
        | (refine Bc_t ?_; conv => whnf)
        | (refine Bc_f ?_; conv => whnf)
        | (rw [g1]; conv => whnf)
        | (rw [g2]; conv => whnf)
        | (rw [g3]; conv => whnf)
        | (rw [g4]; conv => whnf)
        | (rw [g5]; conv => whnf)
        | (rw [g6]; conv => whnf)
        | (rw [hr]; conv => whnf)
        | (refine Bc_split (fun hb => ?_) (fun hb => ?_) <;> (rw [hb]; conv => whnf))
        | (refine And.intro (by first
            | omega
            | assumption
            | (simp only [St.set_n, St.new_n] at *; omega)
            | (simp; done)
            | (simp; omega)
            | (intro _; exact trivial)
            | (intro _; intro _ _; exact trivial)
            | (intro _; intro j hj; first | rfl | (have hj' : j < 1 := hj
                                                   obtain rfl : j = 0 := by omega
                                                   exact ⟨rfl, rfl⟩))
            | (intro j hj; obtain rfl : j = 0 := by omega
               first | exact ⟨rfl, rfl⟩ | exact .inl ⟨rfl, rfl⟩ | exact .inr (by omega) | exact ⟨by assumption, by assumption⟩ | assumption | trivial)
            | exact .inr (by assumption)
            | (intro j hj; exact .inr (by simp only [St.set_n, St.new_n] at *; omega))
            | (intro e he; rcases List.mem_singleton.1 he with rfl; exact ⟨rfl, rfl⟩)
            | (rw [St.set_ne _ _ (by first | assumption | omega | (simp only [St.set_n, St.new_n] at *; omega))]; assumption)
            | (rw [St.set_ne _ _ (by first | assumption | omega | (simp only [St.set_n, St.new_n] at *; omega)), St.set_ne _ _ (by first | assumption | omega | (simp only [St.set_n, St.new_n] at *; omega))]; assumption)
            | (simp only [decide_eq_true_eq, decide_eq_false_iff_not, Bool.not_eq_true, beq_iff_eq, beq_eq_false_iff_ne, ne_eq, ge_iff_le, gt_iff_lt] at *; omega)) ?_; conv => whnf)
        | (rw [St.set_same]; conv => whnf)
        | (rw [St.new_same]; conv => whnf)
        | (rw [St.set_ne _ _ (by first | assumption | omega | (simp only [St.set_n, St.new_n] at *; omega))]; conv => whnf)
        | (rw [St.new_ne _ _ (by first | assumption | omega | (simp only [St.set_n, St.new_n] at *; omega))]; conv => whnf))
    · rw [hnil (by simp at hb; omega)]
      exact Fin.of rfl
    · rename_i hi
      have hi' : i < s.length := by simp at hi; omega
      rw [hget hi' (hq 34 hb)]
      refine Fin.of ⟨rd_eq ?_, rfl⟩
      rw [w64 (by omega) (by omega), List.length_drop]; omega
    · rename_i hi _
      have hi' : i < s.length := by simp at hi; omega
      refine ACallsW.of (form_ok s (i + 1) at_ out r _ hs (by omega) (by rw [St.set_same]; exact rd_eq (by rw [w64 (by omega) (by omega)]; omega))) (fun _ _ _ h => .inl h) ?_
      intro e σ' hk hR
      have hesc := hesc hi' (hq 92 hb)
      cases hf : form (s.drop (i + 1)) with
      | none =>
        rw [hf] at hR hesc
        simp only at hR hesc
        subst hR
        conv => whnf
        rw [hesc]
        exact Fin.of rfl
      | some p =>
        obtain ⟨x, l⟩ := p
        rw [hf] at hR hesc
        simp only at hR hesc
        obtain ⟨rfl, rfl⟩ := hR
        conv => whnf
        repeat' (first
            | (refine Bc_t ?_; conv => whnf)
            | (refine Bc_f ?_; conv => whnf)
            | (rw [g1]; conv => whnf)
            | (rw [g2]; conv => whnf)
            | (rw [g3]; conv => whnf)
            | (rw [g4]; conv => whnf)
            | (rw [g5]; conv => whnf)
            | (rw [g6]; conv => whnf)
            | (rw [hr]; conv => whnf)
            | (refine Bc_split (fun hb => ?_) (fun hb => ?_) <;> (rw [hb]; conv => whnf))
            | (refine And.intro (by first
                | omega
                | assumption
                | (simp only [St.set_n, St.new_n] at *; omega)
                | (simp; done)
                | (simp; omega)
                | (intro _; exact trivial)
                | (intro _; intro _ _; exact trivial)
                | (intro _; intro j hj; first | rfl | (have hj' : j < 1 := hj
                                                       obtain rfl : j = 0 := by omega
                                                       exact ⟨rfl, rfl⟩))
                | (intro j hj; obtain rfl : j = 0 := by omega
                   first | exact ⟨rfl, rfl⟩ | exact .inl ⟨rfl, rfl⟩ | exact .inr (by omega) | exact ⟨by assumption, by assumption⟩ | assumption | trivial)
                | exact .inr (by assumption)
                | (intro j hj; exact .inr (by simp only [St.set_n, St.new_n] at *; omega))
                | (intro e he; rcases List.mem_singleton.1 he with rfl; exact ⟨rfl, rfl⟩)
                | (rw [St.set_ne _ _ (by first | assumption | omega | (simp only [St.set_n, St.new_n] at *; omega))]; assumption)
                | (rw [St.set_ne _ _ (by first | assumption | omega | (simp only [St.set_n, St.new_n] at *; omega)), St.set_ne _ _ (by first | assumption | omega | (simp only [St.set_n, St.new_n] at *; omega))]; assumption)
                | (simp only [decide_eq_true_eq, decide_eq_false_iff_not, Bool.not_eq_true, beq_iff_eq, beq_eq_false_iff_ne, ne_eq, ge_iff_le, gt_iff_lt] at *; omega)) ?_; conv => whnf)
            | (rw [St.set_same]; conv => whnf)
            | (rw [St.new_same]; conv => whnf)
            | (rw [St.set_ne _ _ (by first | assumption | omega | (simp only [St.set_n, St.new_n] at *; omega))]; conv => whnf)
            | (rw [St.new_ne _ _ (by first | assumption | omega | (simp only [St.set_n, St.new_n] at *; omega))]; conv => whnf))
        obtain ⟨hsuf, hlt⟩ := form_suf hf
        have hl := suf_drop (hsuf.trans (List.drop_suffix (i + 1) s))
        rw [List.length_drop] at hlt
        refine ⟨_, [(0, .ptr r 0), (3, .int .i64 at_), (4, .sl (.tok _) 1 (bs [x]))], ?_, ⟨rfl, rfl, rfl, trivial⟩, s.length - l.length, [x], _, rfl, by omega, ?_, ?_, ?_, ?_, .inr ⟨_, ?_, ?_, ?_, rfl⟩, rfl⟩
        · omega
        · rw [hesc, hl]; rfl
        · simp; omega
        · simp only [St.set_n, St.new_n]; omega
        · rw [St.new_ne _ _ (by simp only [St.set_n]; omega), St.set_same]; rfl
        · simp only [St.set_n, St.new_n]; omega
        · simp only [St.set_n, St.new_n]; omega
        · rw [St.new_same]; rfl
    · rename_i hi h34
      have hi' : i < s.length := by simp at hi; omega
      have hoth := hoth hi' (hq' 34 h34) (hq' 92 hb)
      refine ⟨_, [(0, .ptr r 0), (3, .int .i64 at_), (4, .sl (.tok _) 1 (bs [s.getD i 0]))], ?_, ⟨rfl, rfl, rfl, trivial⟩, i + 1, [s.getD i 0], _, rfl, by omega, ?_, ?_, ?_, ?_, .inr ⟨_, ?_, ?_, ?_, rfl⟩, rfl⟩
      · omega
      · rw [hoth]; rfl
      · simp
      · simp only [St.set_n, St.new_n]; omega
      · rw [St.new_ne _ _ (by simp only [St.set_n]; omega), St.set_same]; exact rd_eq (by rw [w64 (by omega) (by omega)]; omega)
      · simp only [St.set_n, St.new_n]; omega
      · simp only [St.set_n, St.new_n]; omega
      · rw [St.new_same]; rfl
  · have hrt : t ≠ r := by omega
    have htr : r ≠ t := by omega
    conv => whnf
    repeat' (first
        | (refine Bc_t ?_; conv => whnf)
        | (refine Bc_f ?_; conv => whnf)
        | (rw [g1]; conv => whnf)
        | (rw [g2]; conv => whnf)
        | (rw [g3]; conv => whnf)
        | (rw [g4]; conv => whnf)
        | (rw [g5]; conv => whnf)
        | (rw [g6]; conv => whnf)
        | (rw [hr]; conv => whnf)
        | (refine Bc_split (fun hb => ?_) (fun hb => ?_) <;> (rw [hb]; conv => whnf))
        | (refine And.intro (by first
            | omega
            | assumption
            | (simp only [St.set_n, St.new_n] at *; omega)
            | (simp; done)
            | (simp; omega)
            | (intro _; exact trivial)
            | (intro _; intro _ _; exact trivial)
            | (intro _; intro j hj; first | rfl | (have hj' : j < 1 := hj
                                                   obtain rfl : j = 0 := by omega
                                                   exact ⟨rfl, rfl⟩))
            | (intro j hj; obtain rfl : j = 0 := by omega
               first | exact ⟨rfl, rfl⟩ | exact .inl ⟨rfl, rfl⟩ | exact .inr (by omega) | exact ⟨by assumption, by assumption⟩ | assumption | trivial)
            | exact .inr (by assumption)
            | (intro j hj; exact .inr (by simp only [St.set_n, St.new_n] at *; omega))
            | (intro e he; rcases List.mem_singleton.1 he with rfl; exact ⟨rfl, rfl⟩)
            | (rw [St.set_ne _ _ (by first | assumption | omega | (simp only [St.set_n, St.new_n] at *; omega))]; assumption)
            | (rw [St.set_ne _ _ (by first | assumption | omega | (simp only [St.set_n, St.new_n] at *; omega)), St.set_ne _ _ (by first | assumption | omega | (simp only [St.set_n, St.new_n] at *; omega))]; assumption)
            | (simp only [decide_eq_true_eq, decide_eq_false_iff_not, Bool.not_eq_true, beq_iff_eq, beq_eq_false_iff_ne, ne_eq, ge_iff_le, gt_iff_lt] at *; omega)) ?_; conv => whnf)
        | (rw [St.set_same]; conv => whnf)
        | (rw [St.new_same]; conv => whnf)
        | (rw [St.set_ne _ _ (by first | assumption | omega | (simp only [St.set_n, St.new_n] at *; omega))]; conv => whnf)
        | (rw [St.new_ne _ _ (by first | assumption | omega | (simp only [St.set_n, St.new_n] at *; omega))]; conv => whnf))
    · rw [hnil (by simp at hb; omega)]
      exact Fin.of rfl
    · rename_i hi
      have hi' : i < s.length := by simp at hi; omega
      refine ⟨v, rfl, ?_⟩
      conv => whnf
      repeat' (first
          | (refine Bc_t ?_; conv => whnf)
          | (refine Bc_f ?_; conv => whnf)
          | (rw [g1]; conv => whnf)
          | (rw [g2]; conv => whnf)
          | (rw [g3]; conv => whnf)
          | (rw [g4]; conv => whnf)
          | (rw [g5]; conv => whnf)
          | (rw [g6]; conv => whnf)
          | (rw [hr]; conv => whnf)
          | (refine Bc_split (fun hb => ?_) (fun hb => ?_) <;> (rw [hb]; conv => whnf))
          | (refine And.intro (by first
              | omega
              | assumption
              | (simp only [St.set_n, St.new_n] at *; omega)
              | (simp; done)
              | (simp; omega)
              | (intro _; exact trivial)
              | (intro _; intro _ _; exact trivial)
              | (intro _; intro j hj; first | rfl | (have hj' : j < 1 := hj
                                                     obtain rfl : j = 0 := by omega
                                                     exact ⟨rfl, rfl⟩))
              | (intro j hj; obtain rfl : j = 0 := by omega
                 first | exact ⟨rfl, rfl⟩ | exact .inl ⟨rfl, rfl⟩ | exact .inr (by omega) | exact ⟨by assumption, by assumption⟩ | assumption | trivial)
              | exact .inr (by assumption)
              | (intro j hj; exact .inr (by simp only [St.set_n, St.new_n] at *; omega))
              | (intro e he; rcases List.mem_singleton.1 he with rfl; exact ⟨rfl, rfl⟩)
              | (rw [St.set_ne _ _ (by first | assumption | omega | (simp only [St.set_n, St.new_n] at *; omega))]; assumption)
              | (rw [St.set_ne _ _ (by first | assumption | omega | (simp only [St.set_n, St.new_n] at *; omega)), St.set_ne _ _ (by first | assumption | omega | (simp only [St.set_n, St.new_n] at *; omega))]; assumption)
              | (simp only [decide_eq_true_eq, decide_eq_false_iff_not, Bool.not_eq_true, beq_iff_eq, beq_eq_false_iff_ne, ne_eq, ge_iff_le, gt_iff_lt] at *; omega)) ?_; conv => whnf)
          | (rw [St.set_same]; conv => whnf)
          | (rw [St.new_same]; conv => whnf)
          | (rw [St.set_ne _ _ (by first | assumption | omega | (simp only [St.set_n, St.new_n] at *; omega))]; conv => whnf)
          | (rw [St.new_ne _ _ (by first | assumption | omega | (simp only [St.set_n, St.new_n] at *; omega))]; conv => whnf))
      rw [hget hi' (hq 34 hb)]
      refine Fin.of ⟨rd_eq ?_, rfl⟩
      rw [w64 (by omega) (by omega), List.length_drop]; omega
    · rename_i hi _
      have hi' : i < s.length := by simp at hi; omega
      refine ACallsW.of (form_ok s (i + 1) at_ out r _ hs (by omega) (by rw [St.set_same]; exact rd_eq (by rw [w64 (by omega) (by omega)]; omega))) (fun _ _ _ h => .inl h) ?_
      intro e σ' hk hR
      have hesc := hesc hi' (hq 92 hb)
      cases hf : form (s.drop (i + 1)) with
      | none =>
        rw [hf] at hR hesc
        simp only at hR hesc
        subst hR
        conv => whnf
        rw [hesc]
        exact Fin.of rfl
      | some p =>
        obtain ⟨x, l⟩ := p
        rw [hf] at hR hesc
        simp only at hR hesc
        obtain ⟨rfl, rfl⟩ := hR
        conv => whnf
        repeat' (first
            | (refine Bc_t ?_; conv => whnf)
            | (refine Bc_f ?_; conv => whnf)
            | (rw [g1]; conv => whnf)
            | (rw [g2]; conv => whnf)
            | (rw [g3]; conv => whnf)
            | (rw [g4]; conv => whnf)
            | (rw [g5]; conv => whnf)
            | (rw [g6]; conv => whnf)
            | (rw [hr]; conv => whnf)
            | (refine Bc_split (fun hb => ?_) (fun hb => ?_) <;> (rw [hb]; conv => whnf))
            | (refine And.intro (by first
                | omega
                | assumption
                | (simp only [St.set_n, St.new_n] at *; omega)
                | (simp; done)
                | (simp; omega)
                | (intro _; exact trivial)
                | (intro _; intro _ _; exact trivial)
                | (intro _; intro j hj; first | rfl | (have hj' : j < 1 := hj
                                                       obtain rfl : j = 0 := by omega
                                                       exact ⟨rfl, rfl⟩))
                | (intro j hj; obtain rfl : j = 0 := by omega
                   first | exact ⟨rfl, rfl⟩ | exact .inl ⟨rfl, rfl⟩ | exact .inr (by omega) | exact ⟨by assumption, by assumption⟩ | assumption | trivial)
                | exact .inr (by assumption)
                | (intro j hj; exact .inr (by simp only [St.set_n, St.new_n] at *; omega))
                | (intro e he; rcases List.mem_singleton.1 he with rfl; exact ⟨rfl, rfl⟩)
                | (rw [St.set_ne _ _ (by first | assumption | omega | (simp only [St.set_n, St.new_n] at *; omega))]; assumption)
                | (rw [St.set_ne _ _ (by first | assumption | omega | (simp only [St.set_n, St.new_n] at *; omega)), St.set_ne _ _ (by first | assumption | omega | (simp only [St.set_n, St.new_n] at *; omega))]; assumption)
                | (simp only [decide_eq_true_eq, decide_eq_false_iff_not, Bool.not_eq_true, beq_iff_eq, beq_eq_false_iff_ne, ne_eq, ge_iff_le, gt_iff_lt] at *; omega)) ?_; conv => whnf)
            | (rw [St.set_same]; conv => whnf)
            | (rw [St.new_same]; conv => whnf)
            | (rw [St.set_ne _ _ (by first | assumption | omega | (simp only [St.set_n, St.new_n] at *; omega))]; conv => whnf)
            | (rw [St.new_ne _ _ (by first | assumption | omega | (simp only [St.set_n, St.new_n] at *; omega))]; conv => whnf))
        obtain ⟨hsuf, hlt⟩ := form_suf hf
        have hl := suf_drop (hsuf.trans (List.drop_suffix (i + 1) s))
        rw [List.length_drop] at hlt
        refine ⟨_, [(0, .ptr r 0), (3, .int .i64 at_), (4, .sl (.tok t) 1 (bs (v ++ [x])))], ?_, ⟨rfl, rfl, sl_snoc, trivial⟩, s.length - l.length, v ++ [x], _, rfl, by omega, ?_, ?_, ?_, ?_, .inr ⟨_, ?_, ?_, ?_, rfl⟩, rfl⟩
        · omega
        · rw [hesc, hl]
        · simp; omega
        · simp only [St.set_n, St.new_n]; omega
        · rw [St.set_ne _ _ htr, St.set_same]; rfl
        · exact ht1
        · simp only [St.set_n, St.new_n]; omega
        · rw [St.set_same]; exact row_snoc
    · rename_i hi h34
      have hi' : i < s.length := by simp at hi; omega
      have hoth := hoth hi' (hq' 34 h34) (hq' 92 hb)
      refine ⟨_, [(0, .ptr r 0), (3, .int .i64 at_), (4, .sl (.tok t) 1 (bs (v ++ [s.getD i 0])))], ?_, ⟨rfl, rfl, sl_snoc, trivial⟩, i + 1, v ++ [s.getD i 0], _, rfl, by omega, ?_, ?_, ?_, ?_, .inr ⟨_, ?_, ?_, ?_, rfl⟩, rfl⟩
      · omega
      · rw [hoth]
      · simp; omega
      · simp only [St.set_n, St.new_n]; omega
      · rw [St.set_ne _ _ htr, St.set_same]; exact rd_eq (by rw [w64 (by omega) (by omega)]; omega)
      · exact ht1
      · simp only [St.set_n, St.new_n]; omega
      · rw [St.set_same]; exact row_snoc
end

theorem text_ok (s : List UInt8) (at_ : Nat) (out : A) (r : Nat) (σ : St) (hs : s.length ≤ 4096) (hat : at_ < s.length) (hrn : r < σ.n) (hr : σ.obj r = rd s at_ out) :
    ACalls Tryd.prog 41 [.ptr r 0] σ (AtOf r) (fun e σ' => match txt 0 0 (s.drop (at_ + 1)) with
      | some (v, l) => σ'.obj r = rd s (s.length - l.length) out ∧ e = .ret (.str v)
      | none => e = .pan (bad 20 at_)) :=
  (text_raw s at_ out r σ hs hat hrn hr).frame fun id off hid hm => hm.resolve_right (by omega)

end Go.Proofs.YtjeccchbeflddaaDoor.Ga
