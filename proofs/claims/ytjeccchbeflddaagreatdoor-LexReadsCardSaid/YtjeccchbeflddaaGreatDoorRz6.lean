/- The reference's lexer, whole. -/
import Derived.Test.YtjeccchbeflddaaGreatDoorRz5
set_option linter.unusedVariables false
set_option linter.unusedSimpArgs false
namespace Go.Proofs.YtjeccchbeflddaaGreatDoor.Ga
open Lx

def c_zlex : SFun := ⟨81, (.seq (.reg [⟨(some 2), (.mov (.const .nils)), none⟩, ⟨(some 3), (.mov (.const (.int .i64 0))), none⟩, ⟨(some 4), (.mov (.const (.int .i64 0))), none⟩]) (.seq (.seq (.reg [⟨(some 12), (.mov (.tmp 0)), none⟩, ⟨(some 13), (.len .str (.tmp 12)), none⟩, ⟨(some 14), (.bin .gtr .none (.tmp 13) (.const (.int .i64 4096))), none⟩]) (.cond (.tmp 14) (.seq (.reg [⟨(some 2), (.mov (.const .nils)), none⟩, ⟨(some 3), (.mov (.const (.int .i64 4))), none⟩, ⟨(some 4), (.mov (.const (.int .i64 0))), none⟩]) .ret) .skip)) (.seq (.reg [⟨(some 15), (.buildSl 4 (.agg [(.int .i64 0), (.int .i64 0), (.int .i64 0), (.str [])]) 0 []), none⟩, ⟨(some 5), (.mov (.tmp 15)), none⟩]) (.seq (.reg [⟨(some 6), (.mov (.const (.int .i64 0))), none⟩]) (.seq (.block 0 (.loop (.seq (.seq (.reg [⟨(some 16), (.mov (.tmp 6)), none⟩, ⟨(some 17), (.mov (.tmp 0)), none⟩, ⟨(some 18), (.len .str (.tmp 17)), none⟩, ⟨(some 19), (.bin .lss .none (.tmp 16) (.tmp 18)), none⟩]) (.cond (.tmp 19) .skip (.exit 0))) (.block 1 (.seq (.seq (.reg [⟨(some 20), (.mov (.tmp 0)), none⟩, ⟨(some 21), (.mov (.tmp 6)), none⟩, ⟨(some 22), (.idxStr (.tmp 20) (.tmp 21)), none⟩, ⟨(some 23), (.bin .eql .none (.tmp 22) (.const (.int .u8 32))), none⟩, ⟨(some 24), (.mov (.tmp 23)), none⟩, ⟨(some 25), (.mov (.tmp 0)), (some (24, false))⟩, ⟨(some 26), (.mov (.tmp 6)), (some (24, false))⟩, ⟨(some 27), (.idxStr (.tmp 25) (.tmp 26)), (some (24, false))⟩, ⟨(some 28), (.bin .eql .none (.tmp 27) (.const (.int .u8 10))), (some (24, false))⟩, ⟨(some 29), (.pick (.tmp 24) (.const (.bool true)) (.tmp 28)), none⟩, ⟨(some 30), (.mov (.tmp 29)), none⟩, ⟨(some 31), (.mov (.tmp 0)), (some (30, false))⟩, ⟨(some 32), (.mov (.tmp 6)), (some (30, false))⟩, ⟨(some 33), (.idxStr (.tmp 31) (.tmp 32)), (some (30, false))⟩, ⟨(some 34), (.bin .eql .none (.tmp 33) (.const (.int .u8 9))), (some (30, false))⟩, ⟨(some 35), (.pick (.tmp 30) (.const (.bool true)) (.tmp 34)), none⟩, ⟨(some 36), (.mov (.tmp 35)), none⟩, ⟨(some 37), (.mov (.tmp 0)), (some (36, false))⟩, ⟨(some 38), (.mov (.tmp 6)), (some (36, false))⟩, ⟨(some 39), (.idxStr (.tmp 37) (.tmp 38)), (some (36, false))⟩, ⟨(some 40), (.bin .eql .none (.tmp 39) (.const (.int .u8 13))), (some (36, false))⟩, ⟨(some 41), (.pick (.tmp 36) (.const (.bool true)) (.tmp 40)), none⟩]) (.cond (.tmp 41) (.seq (.reg [⟨(some 42), (.mov (.tmp 6)), none⟩, ⟨(some 43), (.bin .add .none (.tmp 42) (.const (.int .i64 1))), none⟩, ⟨(some 6), (.mov (.tmp 43)), none⟩]) (.exit 1)) .skip)) (.seq (.seq (.reg [⟨(some 44), (.mov (.tmp 0)), none⟩, ⟨(some 45), (.mov (.tmp 6)), none⟩, ⟨(some 46), (.call 14 [(.tmp 44), (.tmp 45), (.const (.str [40, 42]))]), none⟩]) (.cond (.tmp 46) (.seq (.reg [⟨(some 48), (.mov (.tmp 0)), none⟩, ⟨(some 49), (.mov (.tmp 6)), none⟩, ⟨(some 50), (.call 15 [(.tmp 48), (.tmp 49)]), none⟩, ⟨(some 47), (.mov (.tmp 50)), none⟩, ⟨(some 51), (.extract (.tmp 47) 0), none⟩, ⟨(some 52), (.extract (.tmp 47) 1), none⟩, ⟨(some 7), (.mov (.tmp 51)), none⟩, ⟨(some 8), (.mov (.tmp 52)), none⟩]) (.seq (.seq (.reg [⟨(some 53), (.mov (.tmp 8)), none⟩, ⟨(some 54), (.un .not (.tmp 53)), none⟩]) (.cond (.tmp 54) (.seq (.reg [⟨(some 55), (.mov (.tmp 6)), none⟩, ⟨(some 2), (.mov (.const .nils)), none⟩, ⟨(some 3), (.mov (.const (.int .i64 20))), none⟩, ⟨(some 4), (.mov (.tmp 55)), none⟩]) .ret) .skip)) (.seq (.reg [⟨(some 56), (.mov (.tmp 7)), none⟩, ⟨(some 6), (.mov (.tmp 56)), none⟩]) (.exit 1)))) .skip)) (.seq (.reg [⟨(some 58), (.mov (.tmp 0)), none⟩, ⟨(some 59), (.mov (.tmp 6)), none⟩, ⟨(some 60), (.call 16 [(.tmp 58), (.tmp 59)]), none⟩, ⟨(some 57), (.mov (.tmp 60)), none⟩, ⟨(some 61), (.extract (.tmp 57) 0), none⟩, ⟨(some 62), (.extract (.tmp 57) 1), none⟩, ⟨(some 63), (.extract (.tmp 57) 2), none⟩, ⟨(some 9), (.alloc [(.int .i64 0), (.int .i64 0), (.int .i64 0), (.str [])]), none⟩, ⟨none, (.store 4 (.tmp 9) (.tmp 61)), none⟩, ⟨(some 10), (.mov (.tmp 62)), none⟩, ⟨(some 11), (.mov (.tmp 63)), none⟩]) (.seq (.seq (.reg [⟨(some 64), (.mov (.tmp 11)), none⟩, ⟨(some 65), (.bin .neq .none (.tmp 64) (.const (.int .i64 0))), none⟩]) (.cond (.tmp 65) (.seq (.reg [⟨(some 66), (.mov (.tmp 11)), none⟩, ⟨(some 67), (.mov (.tmp 6)), none⟩, ⟨(some 2), (.mov (.const .nils)), none⟩, ⟨(some 3), (.mov (.tmp 66)), none⟩, ⟨(some 4), (.mov (.tmp 67)), none⟩]) .ret) .skip)) (.seq (.reg [⟨(some 68), (.mov (.tmp 5)), none⟩, ⟨(some 69), (.load true 4 (.tmp 9)), none⟩, ⟨(some 70), (.buildSl 4 (.agg [(.int .i64 0), (.int .i64 0), (.int .i64 0), (.str [])]) 1 [(0, (.tmp 69))]), none⟩, ⟨(some 71), (.append false 4 40 (.tmp 68) (.tmp 70)), none⟩, ⟨(some 5), (.mov (.tmp 71)), none⟩]) (.reg [⟨(some 72), (.mov (.tmp 6)), none⟩, ⟨(some 73), (.mov (.tmp 10)), none⟩, ⟨(some 74), (.bin .add .none (.tmp 72) (.tmp 73)), none⟩, ⟨(some 6), (.mov (.tmp 74)), none⟩])))))))))) (.seq (.reg [⟨(some 75), (.mov (.tmp 5)), none⟩, ⟨(some 76), (.mov (.tmp 0)), none⟩, ⟨(some 77), (.len .str (.tmp 76)), none⟩, ⟨(some 78), (.build [(.int .i64 0), (.int .i64 0), (.int .i64 0), (.str [])] [(0, (1, (.const (.int .i64 0)))), (1, (1, (.tmp 77)))]), none⟩, ⟨(some 79), (.buildSl 4 (.agg [(.int .i64 0), (.int .i64 0), (.int .i64 0), (.str [])]) 1 [(0, (.tmp 78))]), none⟩, ⟨(some 80), (.append false 4 40 (.tmp 75) (.tmp 79)), none⟩, ⟨(some 2), (.mov (.tmp 80)), none⟩, ⟨(some 3), (.mov (.const (.int .i64 0))), none⟩, ⟨(some 4), (.mov (.const (.int .i64 0))), none⟩]) .ret)))))), [(.tmp 2), (.tmp 3), (.tmp 4)]⟩
theorem c_zlex_ok : cFun Tryz.prog Tryz.f6 = some c_zlex := by kernel_rfl

theorem str_oneA (n : Nat) (s : List UInt8) (i : Nat) : Str n (oneA s i) (oneA s i) := by
  unfold oneA
  cases tok (s.drop i) with
  | error e =>
    refine .tup _ _ rfl (fun j x x' h h' => ?_)
    match j with
    | 0 => simp at h h'; subst h h'; exact str_tk n (0, i, 0, [])
    | 1 => simp at h h'; subst h h'; exact .int _ _
    | 2 => simp at h h'; subst h h'; exact .int _ _
    | j + 3 => simp at h
  | ok p =>
    obtain ⟨k, N, S, l⟩ := p
    refine .tup _ _ rfl (fun j x x' h h' => ?_)
    match j with
    | 0 => simp at h h'; subst h h'; exact str_tk n (k, i, N, S)
    | 1 => simp at h h'; subst h h'; exact .int _ _
    | 2 => simp at h h'; subst h h'; exact .int _ _
    | j + 3 => simp at h
theorem zone_ok (s : List UInt8) (i : Nat) (hs : s.length ≤ 4096) (hi : i < s.length) (σ : St) (m) : ACalls Tryz.prog 16 [.str s, .int .i64 i] σ m (fun e σ' => σ' = σ ∧ e = .ret (oneA s i)) :=
  gc_plain (zone_raw s i hs hi σ) (fun _ _ h => h) (str_oneA _ _ _) m

def TBT (n : Nat) (σ : St) (l : List Tk) (t : Nat) : Prop := n ≤ t ∧ t < σ.n ∧ σ.obj t = .row (l.map tkA).length
theorem tapp_full {n : Nat} {σ : St} {w : List Tk} {m : Nat → Nat → Prop} {k : A → St → Prop} (hlen : w.length ≤ 10000000) (hn : n ≤ σ.n)
    (h : ∀ t σ', TBT n σ' w t → σ.n ≤ σ'.n → σ'.base = σ.base → k (.sl (.tok t) 4 (w.map tkA)) σ') : appendS m σ 4 40 .full [] (w.map tkA) k :=
  ⟨by rw [List.length_map, List.length_nil]; omega, by rw [List.length_map, List.length_nil]; omega, tk_all w, h σ.n _ ⟨hn, by rw [St.new_n]; omega, by rw [St.new_same]; rfl⟩ (by rw [St.new_n]; omega) rfl⟩
theorem tapp_tok {n t : Nat} {σ : St} {v w : List Tk} {m : Nat → Nat → Prop} {k : A → St → Prop} (hm : m t 0) (ht : TBT n σ v t) (hlen : v.length + w.length ≤ 10000000)
    (h : ∀ σ', TBT n σ' (v ++ w) t → σ'.n = σ.n → σ'.base = σ.base → k (.sl (.tok t) 4 ((v ++ w).map tkA)) σ') : appendS m σ 4 40 (.tok t) (v.map tkA) (w.map tkA) k := by
  refine ⟨by rw [List.length_map, List.length_map]; omega, by rw [List.length_map, List.length_map]; omega, tk_all w, hm, ht.2.2, ?_⟩
  rw [← List.map_append]
  exact h _ ⟨ht.1, ht.2.1, St.set_same _ _ _⟩ rfl rfl

def TBuf2 (n : Nat) (σ : St) (ts : List Tk) (b : A) : Prop := (ts = [] ∧ b = .sl .full 4 []) ∨ ∃ t, TBT n σ ts t ∧ b = .sl (.tok t) 4 (ts.map tkA)
def endTk (s : List UInt8) : Tk := (0, s.length, 0, [])

/-- What the reference's Lex tells. -/
def ZR (s : List UInt8) (e : AEnd) : Prop := if 4096 < s.length then e = .ret (.tup [.nils, .int .i64 4, .int .i64 0]) else match lexAll s with
  | .ok ts => ∃ t, e = .ret (.tup [.sl (.tok t) 4 ((ts ++ [endTk s]).map tkA), .int .i64 0, .int .i64 0])
  | .error p => e = .ret (.tup [.nils, .int .i64 p.1, .int .i64 p.2])

section
attribute [local irreducible] Bc ACallsW ALoop Fin St.set St.new appendS
set_option maxHeartbeats 8000000 in
theorem zlex_raw (s : List UInt8) (σ : St) : ACalls Tryz.prog 6 [.str s] σ (fun id _ => σ.n ≤ id) (fun e σ' => ZR s e) := by
  refine acalls_go mixed Tryz.func6 c_zlex_ok (Nat.le_of_ble_eq_true rfl) ?_
  by_cases hbig : 4096 < s.length
  · have g1 : decide ((s.length : Int) > 4096) = true := decide_eq_true (by omega)
    conv => whnf
    repeat' (first
      | (refine Bc_t ?_; conv => whnf) | (refine Bc_f ?_; conv => whnf) | (rw [g1]; conv => whnf) | (rw [g2]; conv => whnf) | (rw [g3]; conv => whnf) | (rw [g4]; conv => whnf)
      | (rw [g5]; conv => whnf) | (rw [g6]; conv => whnf) | (rw [g7]; conv => whnf) | (rw [hr]; conv => whnf)
      | (refine And.intro (by first | omega | assumption | (simp only [St.set_n, St.new_n] at *; omega) | (simp; done) | (simp; omega) | (intro _ _; first | assumption | (simp only [St.set_n, St.new_n] at *; omega)) | (intro _; exact trivial) | (intro _; intro _ _; exact trivial) | (intro _; intro j hj; rfl)) ?_; conv => whnf)
      | (rw [St.set_same]; conv => whnf) | (rw [St.new_same]; conv => whnf)
      | (rw [St.set_ne _ _ (by first | assumption | omega | (simp only [St.set_n, St.new_n] at *; omega))]; conv => whnf)
      | (rw [St.new_ne _ _ (by first | assumption | omega | (simp only [St.set_n, St.new_n] at *; omega))]; conv => whnf))
    exact Fin.of (by rw [ZR, if_pos hbig]; rfl)
  have g1 : decide ((s.length : Int) > 4096) = false := decide_eq_false (by omega)
  have hZ : ∀ e, ZR s e ↔ (match lexAll s with
    | .ok ts => ∃ t, e = .ret (.tup [.sl (.tok t) 4 ((ts ++ [endTk s]).map tkA), .int .i64 0, .int .i64 0])
    | .error p => e = .ret (.tup [.nils, .int .i64 p.1, .int .i64 p.2])) := fun e => by rw [ZR, if_neg hbig]
  conv => whnf
  repeat' (first
    | (refine Bc_t ?_; conv => whnf) | (refine Bc_f ?_; conv => whnf) | (rw [g1]; conv => whnf) | (rw [g2]; conv => whnf) | (rw [g3]; conv => whnf) | (rw [g4]; conv => whnf)
    | (rw [g5]; conv => whnf) | (rw [g6]; conv => whnf) | (rw [g7]; conv => whnf) | (rw [hr]; conv => whnf)
    | (refine And.intro (by first | omega | assumption | (simp only [St.set_n, St.new_n] at *; omega) | (simp; done) | (simp; omega) | (intro _ _; first | assumption | (simp only [St.set_n, St.new_n] at *; omega)) | (intro _; exact trivial) | (intro _; intro _ _; exact trivial) | (intro _; intro j hj; rfl)) ?_; conv => whnf)
    | (rw [St.set_same]; conv => whnf) | (rw [St.new_same]; conv => whnf)
    | (rw [St.set_ne _ _ (by first | assumption | omega | (simp only [St.set_n, St.new_n] at *; omega))]; conv => whnf)
    | (rw [St.new_ne _ _ (by first | assumption | omega | (simp only [St.set_n, St.new_n] at *; omega))]; conv => whnf))
  clear g1
  unfold ALoop
  refine ⟨fun k env σ1 => ∃ (i f : Nat) (ts : List Tk) (out : A), k = s.length - i ∧ i ≤ s.length ∧ s.length - i ≤ f ∧ ts.length ≤ i ∧ σ.n ≤ σ1.n ∧ TBuf2 σ.n σ1 ts out ∧ lexAll s = Lx.ahead ts (lexF (f + 1) s.length (s.drop i)) ∧
      env = [(0, .str s), (5, out), (6, .int .i64 i)], _,
    [(0, .str s), (5, .sl .full 4 []), (6, .int .i64 0)], ⟨rfl, rfl, rfl, trivial⟩, ⟨0, s.length, [], _, rfl, by omega, by omega, by simp, Nat.le_refl _, .inl ⟨rfl, rfl⟩, by rw [ahead_nil]; rfl, rfl⟩, ?_⟩
  rintro k env σ1 ⟨i, f, ts, out, rfl, hi, hf, htl, hn, hbuf, hall, rfl⟩
  by_cases hlt : i < s.length
  rotate_left 1
  · obtain rfl : i = s.length := by omega
    have g1 : decide ((s.length : Int) < s.length) = false := by simp
    have hok : lexAll s = .ok ts := by rw [hall, List.drop_length, lexF_succ, skip_nil]; simp only [lexT_nil]; simp [Lx.ahead]
    rcases hbuf with ⟨rfl, rfl⟩ | ⟨t, ht, rfl⟩
    · conv => whnf
      repeat' (first
        | (refine Bc_t ?_; conv => whnf) | (refine Bc_f ?_; conv => whnf) | (rw [g1]; conv => whnf) | (rw [g2]; conv => whnf) | (rw [g3]; conv => whnf) | (rw [g4]; conv => whnf)
        | (rw [g5]; conv => whnf) | (rw [g6]; conv => whnf) | (rw [g7]; conv => whnf) | (rw [hr]; conv => whnf)
        | (refine And.intro (by first | omega | assumption | (simp only [St.set_n, St.new_n] at *; omega) | (simp; done) | (simp; omega) | (intro _ _; first | assumption | (simp only [St.set_n, St.new_n] at *; omega)) | (intro _; exact trivial) | (intro _; intro _ _; exact trivial) | (intro _; intro j hj; rfl)) ?_; conv => whnf)
        | (rw [St.set_same]; conv => whnf) | (rw [St.new_same]; conv => whnf)
        | (rw [St.set_ne _ _ (by first | assumption | omega | (simp only [St.set_n, St.new_n] at *; omega))]; conv => whnf)
        | (rw [St.new_ne _ _ (by first | assumption | omega | (simp only [St.set_n, St.new_n] at *; omega))]; conv => whnf))
      refine tapp_full (n := σ.n) (w := [endTk s]) (by simp) hn ?_
      intro t σ2 ht _ _
      conv => whnf
      repeat' (first
        | (refine Bc_t ?_; conv => whnf) | (refine Bc_f ?_; conv => whnf) | (rw [g1]; conv => whnf) | (rw [g2]; conv => whnf) | (rw [g3]; conv => whnf) | (rw [g4]; conv => whnf)
        | (rw [g5]; conv => whnf) | (rw [g6]; conv => whnf) | (rw [g7]; conv => whnf) | (rw [hr]; conv => whnf)
        | (refine And.intro (by first | omega | assumption | (simp only [St.set_n, St.new_n] at *; omega) | (simp; done) | (simp; omega) | (intro _ _; first | assumption | (simp only [St.set_n, St.new_n] at *; omega)) | (intro _; exact trivial) | (intro _; intro _ _; exact trivial) | (intro _; intro j hj; rfl)) ?_; conv => whnf)
        | (rw [St.set_same]; conv => whnf) | (rw [St.new_same]; conv => whnf)
        | (rw [St.set_ne _ _ (by first | assumption | omega | (simp only [St.set_n, St.new_n] at *; omega))]; conv => whnf)
        | (rw [St.new_ne _ _ (by first | assumption | omega | (simp only [St.set_n, St.new_n] at *; omega))]; conv => whnf))
      exact Fin.of ((hZ _).2 (by rw [hok]; exact ⟨t, rfl⟩))
    · conv => whnf
      repeat' (first
        | (refine Bc_t ?_; conv => whnf) | (refine Bc_f ?_; conv => whnf) | (rw [g1]; conv => whnf) | (rw [g2]; conv => whnf) | (rw [g3]; conv => whnf) | (rw [g4]; conv => whnf)
        | (rw [g5]; conv => whnf) | (rw [g6]; conv => whnf) | (rw [g7]; conv => whnf) | (rw [hr]; conv => whnf)
        | (refine And.intro (by first | omega | assumption | (simp only [St.set_n, St.new_n] at *; omega) | (simp; done) | (simp; omega) | (intro _ _; first | assumption | (simp only [St.set_n, St.new_n] at *; omega)) | (intro _; exact trivial) | (intro _; intro _ _; exact trivial) | (intro _; intro j hj; rfl)) ?_; conv => whnf)
        | (rw [St.set_same]; conv => whnf) | (rw [St.new_same]; conv => whnf)
        | (rw [St.set_ne _ _ (by first | assumption | omega | (simp only [St.set_n, St.new_n] at *; omega))]; conv => whnf)
        | (rw [St.new_ne _ _ (by first | assumption | omega | (simp only [St.set_n, St.new_n] at *; omega))]; conv => whnf))
      refine tapp_tok (n := σ.n) (w := [endTk s]) ht.1 ht (by simp only [List.length_singleton]; omega) ?_
      intro σ2 ht2 _ _
      conv => whnf
      repeat' (first
        | (refine Bc_t ?_; conv => whnf) | (refine Bc_f ?_; conv => whnf) | (rw [g1]; conv => whnf) | (rw [g2]; conv => whnf) | (rw [g3]; conv => whnf) | (rw [g4]; conv => whnf)
        | (rw [g5]; conv => whnf) | (rw [g6]; conv => whnf) | (rw [g7]; conv => whnf) | (rw [hr]; conv => whnf)
        | (refine And.intro (by first | omega | assumption | (simp only [St.set_n, St.new_n] at *; omega) | (simp; done) | (simp; omega) | (intro _ _; first | assumption | (simp only [St.set_n, St.new_n] at *; omega)) | (intro _; exact trivial) | (intro _; intro _ _; exact trivial) | (intro _; intro j hj; rfl)) ?_; conv => whnf)
        | (rw [St.set_same]; conv => whnf) | (rw [St.new_same]; conv => whnf)
        | (rw [St.set_ne _ _ (by first | assumption | omega | (simp only [St.set_n, St.new_n] at *; omega))]; conv => whnf)
        | (rw [St.new_ne _ _ (by first | assumption | omega | (simp only [St.set_n, St.new_n] at *; omega))]; conv => whnf))
      exact Fin.of ((hZ _).2 (by rw [hok]; exact ⟨t, rfl⟩))
  have g1 : decide ((i : Int) < s.length) = true := decide_eq_true (by omega)
  have hgd : s.getD (i : Int).toNat 0 = s.getD i 0 := rfl
  have hd := one_drop hlt
  have c1 := u8_beqz (s.getD i 0) 32
  have c2 := u8_beqz (s.getD i 0) 10
  have c3 := u8_beqz (s.getD i 0) 9
  have c4 := u8_beqz (s.getD i 0) 13
  have hbl : isBlank (s.getD i 0) = (s.getD i 0 == 32 || s.getD i 0 == 9 || s.getD i 0 == 10 || s.getD i 0 == 13) := rfl
  have nextb : isBlank (s.getD i 0) = true → ∀ env' : Env, EnvSub [(0, .str s), (5, out), (6, .int .i64 (i + 1 : Nat))] env' →
      ∃ k' env'', k' < s.length - i ∧ EnvSub env'' env' ∧ ∃ (i f : Nat) (ts : List Tk) (out : A), k' = s.length - i ∧ i ≤ s.length ∧ s.length - i ≤ f ∧ ts.length ≤ i ∧ σ.n ≤ σ1.n ∧ TBuf2 σ.n σ1 ts out ∧ lexAll s = Lx.ahead ts (lexF (f + 1) s.length (s.drop i)) ∧
        env'' = [(0, .str s), (5, out), (6, .int .i64 i)] := by
    intro hb env' he
    refine ⟨_, _, ?_, he, i + 1, f, ts, out, rfl, by omega, by omega, by omega, hn, hbuf, ?_, rfl⟩
    · omega
    · rw [hall, hd, lexF_succ, skip_blank _ _ hb, ← lexF_succ]
  have hinc : IntKind.i64.wrap ((i : Int) + 1) = ((i + 1 : Nat) : Int) := by rw [w64 (by omega) (by omega)]; omega
  cases b32 : (s.getD i 0 == 32) with
  | true =>
    have g2 : (((s.getD (i : Int).toNat 0).toNat : Int) == 32) = true := by rw [hgd]; exact c1.trans b32
    conv => whnf
    repeat' (first
      | (refine Bc_t ?_; conv => whnf) | (refine Bc_f ?_; conv => whnf) | (rw [g1]; conv => whnf) | (rw [g2]; conv => whnf) | (rw [g3]; conv => whnf) | (rw [g4]; conv => whnf)
      | (rw [g5]; conv => whnf) | (rw [g6]; conv => whnf) | (rw [g7]; conv => whnf) | (rw [hr]; conv => whnf)
      | (refine And.intro (by first | omega | assumption | (simp only [St.set_n, St.new_n] at *; omega) | (simp; done) | (simp; omega) | (intro _ _; first | assumption | (simp only [St.set_n, St.new_n] at *; omega)) | (intro _; exact trivial) | (intro _; intro _ _; exact trivial) | (intro _; intro j hj; rfl)) ?_; conv => whnf)
      | (rw [St.set_same]; conv => whnf) | (rw [St.new_same]; conv => whnf)
      | (rw [St.set_ne _ _ (by first | assumption | omega | (simp only [St.set_n, St.new_n] at *; omega))]; conv => whnf)
      | (rw [St.new_ne _ _ (by first | assumption | omega | (simp only [St.set_n, St.new_n] at *; omega))]; conv => whnf))
    exact nextb (by rw [hbl, b32]; rfl) _ ⟨rfl, rfl, int_eq hinc, trivial⟩
  | false =>
  have g2 : (((s.getD (i : Int).toNat 0).toNat : Int) == 32) = false := by rw [hgd]; exact c1.trans b32
  cases b10 : (s.getD i 0 == 10) with
  | true =>
    have g3 : (((s.getD (i : Int).toNat 0).toNat : Int) == 10) = true := by rw [hgd]; exact c2.trans b10
    conv => whnf
    repeat' (first
      | (refine Bc_t ?_; conv => whnf) | (refine Bc_f ?_; conv => whnf) | (rw [g1]; conv => whnf) | (rw [g2]; conv => whnf) | (rw [g3]; conv => whnf) | (rw [g4]; conv => whnf)
      | (rw [g5]; conv => whnf) | (rw [g6]; conv => whnf) | (rw [g7]; conv => whnf) | (rw [hr]; conv => whnf)
      | (refine And.intro (by first | omega | assumption | (simp only [St.set_n, St.new_n] at *; omega) | (simp; done) | (simp; omega) | (intro _ _; first | assumption | (simp only [St.set_n, St.new_n] at *; omega)) | (intro _; exact trivial) | (intro _; intro _ _; exact trivial) | (intro _; intro j hj; rfl)) ?_; conv => whnf)
      | (rw [St.set_same]; conv => whnf) | (rw [St.new_same]; conv => whnf)
      | (rw [St.set_ne _ _ (by first | assumption | omega | (simp only [St.set_n, St.new_n] at *; omega))]; conv => whnf)
      | (rw [St.new_ne _ _ (by first | assumption | omega | (simp only [St.set_n, St.new_n] at *; omega))]; conv => whnf))
    exact nextb (by rw [hbl, b32, b10]; simp) _ ⟨rfl, rfl, int_eq hinc, trivial⟩
  | false =>
  have g3 : (((s.getD (i : Int).toNat 0).toNat : Int) == 10) = false := by rw [hgd]; exact c2.trans b10
  cases b9 : (s.getD i 0 == 9) with
  | true =>
    have g4 : (((s.getD (i : Int).toNat 0).toNat : Int) == 9) = true := by rw [hgd]; exact c3.trans b9
    conv => whnf
    repeat' (first
      | (refine Bc_t ?_; conv => whnf) | (refine Bc_f ?_; conv => whnf) | (rw [g1]; conv => whnf) | (rw [g2]; conv => whnf) | (rw [g3]; conv => whnf) | (rw [g4]; conv => whnf)
      | (rw [g5]; conv => whnf) | (rw [g6]; conv => whnf) | (rw [g7]; conv => whnf) | (rw [hr]; conv => whnf)
      | (refine And.intro (by first | omega | assumption | (simp only [St.set_n, St.new_n] at *; omega) | (simp; done) | (simp; omega) | (intro _ _; first | assumption | (simp only [St.set_n, St.new_n] at *; omega)) | (intro _; exact trivial) | (intro _; intro _ _; exact trivial) | (intro _; intro j hj; rfl)) ?_; conv => whnf)
      | (rw [St.set_same]; conv => whnf) | (rw [St.new_same]; conv => whnf)
      | (rw [St.set_ne _ _ (by first | assumption | omega | (simp only [St.set_n, St.new_n] at *; omega))]; conv => whnf)
      | (rw [St.new_ne _ _ (by first | assumption | omega | (simp only [St.set_n, St.new_n] at *; omega))]; conv => whnf))
    exact nextb (by rw [hbl, b32, b10, b9]; simp) _ ⟨rfl, rfl, int_eq hinc, trivial⟩
  | false =>
  have g4 : (((s.getD (i : Int).toNat 0).toNat : Int) == 9) = false := by rw [hgd]; exact c3.trans b9
  cases b13 : (s.getD i 0 == 13) with
  | true =>
    have g5 : (((s.getD (i : Int).toNat 0).toNat : Int) == 13) = true := by rw [hgd]; exact c4.trans b13
    conv => whnf
    repeat' (first
      | (refine Bc_t ?_; conv => whnf) | (refine Bc_f ?_; conv => whnf) | (rw [g1]; conv => whnf) | (rw [g2]; conv => whnf) | (rw [g3]; conv => whnf) | (rw [g4]; conv => whnf)
      | (rw [g5]; conv => whnf) | (rw [g6]; conv => whnf) | (rw [g7]; conv => whnf) | (rw [hr]; conv => whnf)
      | (refine And.intro (by first | omega | assumption | (simp only [St.set_n, St.new_n] at *; omega) | (simp; done) | (simp; omega) | (intro _ _; first | assumption | (simp only [St.set_n, St.new_n] at *; omega)) | (intro _; exact trivial) | (intro _; intro _ _; exact trivial) | (intro _; intro j hj; rfl)) ?_; conv => whnf)
      | (rw [St.set_same]; conv => whnf) | (rw [St.new_same]; conv => whnf)
      | (rw [St.set_ne _ _ (by first | assumption | omega | (simp only [St.set_n, St.new_n] at *; omega))]; conv => whnf)
      | (rw [St.new_ne _ _ (by first | assumption | omega | (simp only [St.set_n, St.new_n] at *; omega))]; conv => whnf))
    exact nextb (by rw [hbl, b32, b10, b9, b13]; simp) _ ⟨rfl, rfl, int_eq hinc, trivial⟩
  | false =>
  have g5 : (((s.getD (i : Int).toNat 0).toNat : Int) == 13) = false := by rw [hgd]; exact c4.trans b13
  have hnb : isBlank (s.getD i 0) = false := by rw [hbl, b32, b10, b9, b13]; rfl
  conv => whnf
  repeat' (first
    | (refine Bc_t ?_; conv => whnf) | (refine Bc_f ?_; conv => whnf) | (rw [g1]; conv => whnf) | (rw [g2]; conv => whnf) | (rw [g3]; conv => whnf) | (rw [g4]; conv => whnf)
    | (rw [g5]; conv => whnf) | (rw [g6]; conv => whnf) | (rw [g7]; conv => whnf) | (rw [hr]; conv => whnf)
    | (refine And.intro (by first | omega | assumption | (simp only [St.set_n, St.new_n] at *; omega) | (simp; done) | (simp; omega) | (intro _ _; first | assumption | (simp only [St.set_n, St.new_n] at *; omega)) | (intro _; exact trivial) | (intro _; intro _ _; exact trivial) | (intro _; intro j hj; rfl)) ?_; conv => whnf)
    | (rw [St.set_same]; conv => whnf) | (rw [St.new_same]; conv => whnf)
    | (rw [St.set_ne _ _ (by first | assumption | omega | (simp only [St.set_n, St.new_n] at *; omega))]; conv => whnf)
    | (rw [St.new_ne _ _ (by first | assumption | omega | (simp only [St.set_n, St.new_n] at *; omega))]; conv => whnf))
  refine ACallsW.of (zat_ok s [40, 42] i (by omega) (by decide) hi _ Non) (fun _ _ _ h => h.elim) ?_
  rintro _ σ2 _ ⟨e1, rfl⟩
  have e2 := e1.symm
  subst e2
  cases hop : [40, 42].isPrefixOf (s.drop i) with
  | true =>
    obtain ⟨q1, q2⟩ := two_drop hop
    have hsk : skip 0 [] (s.drop i) = match com 1 (s.drop (i + 2)) with | none => (false, s.drop i) | some l => skip 0 [] l := by rw [q1, skip_open, com_open]; rfl
    conv => whnf
    repeat' (first
      | (refine Bc_t ?_; conv => whnf) | (refine Bc_f ?_; conv => whnf) | (rw [g1]; conv => whnf) | (rw [g2]; conv => whnf) | (rw [g3]; conv => whnf) | (rw [g4]; conv => whnf)
      | (rw [g5]; conv => whnf) | (rw [g6]; conv => whnf) | (rw [g7]; conv => whnf) | (rw [hr]; conv => whnf)
      | (refine And.intro (by first | omega | assumption | (simp only [St.set_n, St.new_n] at *; omega) | (simp; done) | (simp; omega) | (intro _ _; first | assumption | (simp only [St.set_n, St.new_n] at *; omega)) | (intro _; exact trivial) | (intro _; intro _ _; exact trivial) | (intro _; intro j hj; rfl)) ?_; conv => whnf)
      | (rw [St.set_same]; conv => whnf) | (rw [St.new_same]; conv => whnf)
      | (rw [St.set_ne _ _ (by first | assumption | omega | (simp only [St.set_n, St.new_n] at *; omega))]; conv => whnf)
      | (rw [St.new_ne _ _ (by first | assumption | omega | (simp only [St.set_n, St.new_n] at *; omega))]; conv => whnf))
    refine ACallsW.of (zcomment_ok s (by omega) (s.length - i) i rfl q2 _ Non) (fun _ _ _ h => h.elim) ?_
    rintro _ σ2 _ ⟨e1, rfl⟩
    have e2 := e1.symm
    subst e2
    cases hc : com 1 (s.drop (i + 2)) with
    | none =>
      rw [hc] at hsk
      have e3 : comA s i = .tup [.int .i64 0, .bool false] := by rw [comA, hc]
      have herr : lexAll s = .error (20, i) := by
        rw [hall, lexF_succ, hsk]
        show Lx.ahead ts (.error (20, s.length - (s.drop i).length)) = _
        rw [List.length_drop, show s.length - (s.length - i) = i by omega]
        rfl
      rw [e3]
      conv => whnf
      repeat' (first
        | (refine Bc_t ?_; conv => whnf) | (refine Bc_f ?_; conv => whnf) | (rw [g1]; conv => whnf) | (rw [g2]; conv => whnf) | (rw [g3]; conv => whnf) | (rw [g4]; conv => whnf)
        | (rw [g5]; conv => whnf) | (rw [g6]; conv => whnf) | (rw [g7]; conv => whnf) | (rw [hr]; conv => whnf)
        | (refine And.intro (by first | omega | assumption | (simp only [St.set_n, St.new_n] at *; omega) | (simp; done) | (simp; omega) | (intro _ _; first | assumption | (simp only [St.set_n, St.new_n] at *; omega)) | (intro _; exact trivial) | (intro _; intro _ _; exact trivial) | (intro _; intro j hj; rfl)) ?_; conv => whnf)
        | (rw [St.set_same]; conv => whnf) | (rw [St.new_same]; conv => whnf)
        | (rw [St.set_ne _ _ (by first | assumption | omega | (simp only [St.set_n, St.new_n] at *; omega))]; conv => whnf)
        | (rw [St.new_ne _ _ (by first | assumption | omega | (simp only [St.set_n, St.new_n] at *; omega))]; conv => whnf))
      exact Fin.of ((hZ _).2 (by rw [herr]; rfl))
    | some r =>
      rw [hc] at hsk
      have e3 : comA s i = .tup [.int .i64 (s.length - r.length : Nat), .bool true] := by rw [comA, hc]
      have hsuf := (com_suf _ _ _ hc).trans (List.drop_suffix (i + 2) s)
      have hlen := com_len _ _ _ hc
      rw [List.length_drop] at hlen
      rw [e3]
      conv => whnf
      repeat' (first
        | (refine Bc_t ?_; conv => whnf) | (refine Bc_f ?_; conv => whnf) | (rw [g1]; conv => whnf) | (rw [g2]; conv => whnf) | (rw [g3]; conv => whnf) | (rw [g4]; conv => whnf)
        | (rw [g5]; conv => whnf) | (rw [g6]; conv => whnf) | (rw [g7]; conv => whnf) | (rw [hr]; conv => whnf)
        | (refine And.intro (by first | omega | assumption | (simp only [St.set_n, St.new_n] at *; omega) | (simp; done) | (simp; omega) | (intro _ _; first | assumption | (simp only [St.set_n, St.new_n] at *; omega)) | (intro _; exact trivial) | (intro _; intro _ _; exact trivial) | (intro _; intro j hj; rfl)) ?_; conv => whnf)
        | (rw [St.set_same]; conv => whnf) | (rw [St.new_same]; conv => whnf)
        | (rw [St.set_ne _ _ (by first | assumption | omega | (simp only [St.set_n, St.new_n] at *; omega))]; conv => whnf)
        | (rw [St.new_ne _ _ (by first | assumption | omega | (simp only [St.set_n, St.new_n] at *; omega))]; conv => whnf))
      refine ⟨_, [(0, .str s), (5, out), (6, .int .i64 (s.length - r.length : Nat))], ?_, ⟨rfl, rfl, rfl, trivial⟩, s.length - r.length, f, ts, out, rfl, by omega, by omega, by omega, hn, hbuf, ?_, rfl⟩
      · omega
      · rw [hall, lexF_succ, hsk, suf_drop hsuf, lexF_succ]
  | false =>
  have hsk : skip 0 [] (s.drop i) = (true, s.drop i) := by rw [hd]; exact skip_stop _ _ hnb (by rw [← hd]; exact hop)
  have hne : s.drop i ≠ [] := by rw [hd]; simp
  conv => whnf
  repeat' (first
    | (refine Bc_t ?_; conv => whnf) | (refine Bc_f ?_; conv => whnf) | (rw [g1]; conv => whnf) | (rw [g2]; conv => whnf) | (rw [g3]; conv => whnf) | (rw [g4]; conv => whnf)
    | (rw [g5]; conv => whnf) | (rw [g6]; conv => whnf) | (rw [g7]; conv => whnf) | (rw [hr]; conv => whnf)
    | (refine And.intro (by first | omega | assumption | (simp only [St.set_n, St.new_n] at *; omega) | (simp; done) | (simp; omega) | (intro _ _; first | assumption | (simp only [St.set_n, St.new_n] at *; omega)) | (intro _; exact trivial) | (intro _; intro _ _; exact trivial) | (intro _; intro j hj; rfl)) ?_; conv => whnf)
    | (rw [St.set_same]; conv => whnf) | (rw [St.new_same]; conv => whnf)
    | (rw [St.set_ne _ _ (by first | assumption | omega | (simp only [St.set_n, St.new_n] at *; omega))]; conv => whnf)
    | (rw [St.new_ne _ _ (by first | assumption | omega | (simp only [St.set_n, St.new_n] at *; omega))]; conv => whnf))
  refine ACallsW.of (zone_ok s i (by omega) hlt _ Non) (fun _ _ _ h => h.elim) ?_
  rintro _ σ2 _ ⟨e1, rfl⟩
  have e2 := e1.symm
  subst e2
  obtain ⟨f, rfl⟩ : ∃ g, f = g + 1 := ⟨f - 1, by omega⟩
  cases htk : tok (s.drop i) with
  | error k =>
    have e3 : oneA s i = .tup [tokA 0 i 0 [], .int .i64 0, .int .i64 k] := by rw [oneA, htk]
    have herr : lexAll s = .error (k, i) := by
      rw [hall, lexF_succ, hsk]
      show Lx.ahead ts (lexT (f + 1) s.length (s.drop i)) = _
      rw [lexT_err hne htk, List.length_drop, show s.length - (s.length - i) = i by omega]
      rfl
    have hk0 := tok_err hne htk
    have g6 : ((k : Int) != 0) = true := by simpa using hk0
    rw [e3]
    conv => whnf
    repeat' (first
      | (refine Bc_t ?_; conv => whnf) | (refine Bc_f ?_; conv => whnf) | (rw [g1]; conv => whnf) | (rw [g2]; conv => whnf) | (rw [g3]; conv => whnf) | (rw [g4]; conv => whnf)
      | (rw [g5]; conv => whnf) | (rw [g6]; conv => whnf) | (rw [g7]; conv => whnf) | (rw [hr]; conv => whnf)
      | (refine And.intro (by first | omega | assumption | (simp only [St.set_n, St.new_n] at *; omega) | (simp; done) | (simp; omega) | (intro _ _; first | assumption | (simp only [St.set_n, St.new_n] at *; omega)) | (intro _; exact trivial) | (intro _; intro _ _; exact trivial) | (intro _; intro j hj; rfl)) ?_; conv => whnf)
      | (rw [St.set_same]; conv => whnf) | (rw [St.new_same]; conv => whnf)
      | (rw [St.set_ne _ _ (by first | assumption | omega | (simp only [St.set_n, St.new_n] at *; omega))]; conv => whnf)
      | (rw [St.new_ne _ _ (by first | assumption | omega | (simp only [St.set_n, St.new_n] at *; omega))]; conv => whnf))
    exact Fin.of ((hZ _).2 (by rw [herr]; rfl))
  | ok p =>
    obtain ⟨K, N, S, l⟩ := p
    have e3 : oneA s i = .tup [tokA K i N S, .int .i64 ((s.length - i - l.length : Nat)), .int .i64 0] := by rw [oneA, htk]
    obtain ⟨q1, q2⟩ := tok_suf htk
    rw [List.length_drop] at q2
    have hl := suf_drop (q1.trans (List.drop_suffix i s))
    have hstep : lexAll s = Lx.ahead (ts ++ [(K, i, N, S)]) (lexF (f + 1) s.length (s.drop (s.length - l.length))) := by
      rw [hall, lexF_succ, hsk]
      show Lx.ahead ts (lexT (f + 1) s.length (s.drop i)) = _
      rw [lexT_ok htk, ahead_ahead, List.length_drop, show s.length - (s.length - i) = i by omega, hl]
    generalize hnn : s.length - i - l.length = nn at e3
    have hadd : IntKind.i64.wrap ((i : Int) + (nn : Int)) = ((s.length - l.length : Nat) : Int) := by rw [w64 (by omega) (by omega)]; omega
    rw [e3]
    rcases hbuf with ⟨rfl, rfl⟩ | ⟨t, ht, rfl⟩
    · conv => whnf
      repeat' (first
        | (refine Bc_t ?_; conv => whnf) | (refine Bc_f ?_; conv => whnf) | (rw [g1]; conv => whnf) | (rw [g2]; conv => whnf) | (rw [g3]; conv => whnf) | (rw [g4]; conv => whnf)
        | (rw [g5]; conv => whnf) | (rw [g6]; conv => whnf) | (rw [g7]; conv => whnf) | (rw [hr]; conv => whnf)
        | (refine And.intro (by first | omega | assumption | (simp only [St.set_n, St.new_n] at *; omega) | (simp; done) | (simp; omega) | (intro _ _; first | assumption | (simp only [St.set_n, St.new_n] at *; omega)) | (intro _; exact trivial) | (intro _; intro _ _; exact trivial) | (intro _; intro j hj; rfl)) ?_; conv => whnf)
        | (rw [St.set_same]; conv => whnf) | (rw [St.new_same]; conv => whnf)
        | (rw [St.set_ne _ _ (by first | assumption | omega | (simp only [St.set_n, St.new_n] at *; omega))]; conv => whnf)
        | (rw [St.new_ne _ _ (by first | assumption | omega | (simp only [St.set_n, St.new_n] at *; omega))]; conv => whnf))
      refine tapp_full (n := σ.n) (w := [(K, i, N, S)]) (by simp) (by simp only [St.set_n, St.new_n]; omega) ?_
      intro t σ3 ht hn3 _
      simp only [St.set_n, St.new_n] at hn3
      conv => whnf
      repeat' (first
        | (refine Bc_t ?_; conv => whnf) | (refine Bc_f ?_; conv => whnf) | (rw [g1]; conv => whnf) | (rw [g2]; conv => whnf) | (rw [g3]; conv => whnf) | (rw [g4]; conv => whnf)
        | (rw [g5]; conv => whnf) | (rw [g6]; conv => whnf) | (rw [g7]; conv => whnf) | (rw [hr]; conv => whnf)
        | (refine And.intro (by first | omega | assumption | (simp only [St.set_n, St.new_n] at *; omega) | (simp; done) | (simp; omega) | (intro _ _; first | assumption | (simp only [St.set_n, St.new_n] at *; omega)) | (intro _; exact trivial) | (intro _; intro _ _; exact trivial) | (intro _; intro j hj; rfl)) ?_; conv => whnf)
        | (rw [St.set_same]; conv => whnf) | (rw [St.new_same]; conv => whnf)
        | (rw [St.set_ne _ _ (by first | assumption | omega | (simp only [St.set_n, St.new_n] at *; omega))]; conv => whnf)
        | (rw [St.new_ne _ _ (by first | assumption | omega | (simp only [St.set_n, St.new_n] at *; omega))]; conv => whnf))
      refine ⟨_, [(0, .str s), (5, .sl (.tok t) 4 ([((K, i, N, S) : Tk)].map tkA)), (6, .int .i64 (s.length - l.length : Nat))], ?_, ⟨rfl, rfl, int_eq hadd, trivial⟩, s.length - l.length, f, [] ++ [(K, i, N, S)], _, rfl, by omega, by omega, by simp; omega, by omega, .inr ⟨t, ht, rfl⟩, hstep, rfl⟩
      omega
    · have hne2 : t ≠ σ1.n := by have := ht.2.1; omega
      conv => whnf
      repeat' (first
        | (refine Bc_t ?_; conv => whnf) | (refine Bc_f ?_; conv => whnf) | (rw [g1]; conv => whnf) | (rw [g2]; conv => whnf) | (rw [g3]; conv => whnf) | (rw [g4]; conv => whnf)
        | (rw [g5]; conv => whnf) | (rw [g6]; conv => whnf) | (rw [g7]; conv => whnf) | (rw [hr]; conv => whnf)
        | (refine And.intro (by first | omega | assumption | (simp only [St.set_n, St.new_n] at *; omega) | (simp; done) | (simp; omega) | (intro _ _; first | assumption | (simp only [St.set_n, St.new_n] at *; omega)) | (intro _; exact trivial) | (intro _; intro _ _; exact trivial) | (intro _; intro j hj; rfl)) ?_; conv => whnf)
        | (rw [St.set_same]; conv => whnf) | (rw [St.new_same]; conv => whnf)
        | (rw [St.set_ne _ _ (by first | assumption | omega | (simp only [St.set_n, St.new_n] at *; omega))]; conv => whnf)
        | (rw [St.new_ne _ _ (by first | assumption | omega | (simp only [St.set_n, St.new_n] at *; omega))]; conv => whnf))
      refine tapp_tok (n := σ.n) (w := [(K, i, N, S)]) ht.1 ⟨ht.1, by simp only [St.set_n, St.new_n]; have := ht.2.1; omega, by rw [St.set_ne _ _ hne2, St.new_ne _ _ hne2]; exact ht.2.2⟩ (by simp only [List.length_singleton]; omega) ?_
      intro σ3 ht3 hn3 _
      simp only [St.set_n, St.new_n] at hn3
      conv => whnf
      repeat' (first
        | (refine Bc_t ?_; conv => whnf) | (refine Bc_f ?_; conv => whnf) | (rw [g1]; conv => whnf) | (rw [g2]; conv => whnf) | (rw [g3]; conv => whnf) | (rw [g4]; conv => whnf)
        | (rw [g5]; conv => whnf) | (rw [g6]; conv => whnf) | (rw [g7]; conv => whnf) | (rw [hr]; conv => whnf)
        | (refine And.intro (by first | omega | assumption | (simp only [St.set_n, St.new_n] at *; omega) | (simp; done) | (simp; omega) | (intro _ _; first | assumption | (simp only [St.set_n, St.new_n] at *; omega)) | (intro _; exact trivial) | (intro _; intro _ _; exact trivial) | (intro _; intro j hj; rfl)) ?_; conv => whnf)
        | (rw [St.set_same]; conv => whnf) | (rw [St.new_same]; conv => whnf)
        | (rw [St.set_ne _ _ (by first | assumption | omega | (simp only [St.set_n, St.new_n] at *; omega))]; conv => whnf)
        | (rw [St.new_ne _ _ (by first | assumption | omega | (simp only [St.set_n, St.new_n] at *; omega))]; conv => whnf))
      refine ⟨_, [(0, .str s), (5, .sl (.tok t) 4 ((ts ++ [(K, i, N, S)]).map tkA)), (6, .int .i64 (s.length - l.length : Nat))], ?_, ⟨rfl, rfl, int_eq hadd, trivial⟩, s.length - l.length, f, ts ++ [(K, i, N, S)], _, rfl, by omega, by omega, by simp; omega, by omega, .inr ⟨t, ht3, rfl⟩, hstep, rfl⟩
      omega
end

theorem zlex_ok (s : List UInt8) (σ : St) (m) : ACalls Tryz.prog 6 [.str s] σ m (fun e σ' => σ' = σ ∧ e = .ret (lexA s)) := by
  refine (ACalls.gc ((zlex_raw s σ).frame (m' := Non) fun id off hid hm => absurd hm (by omega)) fun e σ' hk hR => ?_).frame (fun _ _ _ h => h.elim)
  have hobj : ∀ id, id < σ.n → σ.obj id = σ'.obj id := fun id hid => (hk.same hid (fun _ h => h.elim)).symm
  have hcl : Closed Non σ.n σ' := fun id hid => by
    cases σ'.obj id with
    | cells cs => exact fun off c h => h.elim
    | map es => exact fun h => h.elim
    | row hw => trivial
  unfold ZR at hR
  by_cases hbig : 4096 < s.length
  · rw [if_pos hbig] at hR
    subst hR
    exact ⟨σ, _, rfl, rfl, hobj, hcl, .ret _ _ (str_tup3 .nils (.int _ _) (.int _ _)), rfl, by rw [lexA, if_pos hbig]⟩
  · rw [if_neg hbig] at hR
    cases hl : lexAll s with
    | ok ts =>
      rw [hl] at hR
      obtain ⟨t, rfl⟩ := hR
      refine ⟨σ, _, rfl, rfl, hobj, hcl, .ret _ _ (str_tup3 (a' := .sl .no 4 ((ts ++ [endTk s]).map tkA)) ?_ (.int _ _) (.int _ _)), rfl, by rw [lexA, if_neg hbig, hl]; rfl⟩
      refine .sl _ _ _ _ _ (.inl rfl) rfl (fun j c c' h h' => ?_)
      rw [h] at h'
      injection h' with h'
      subst h'
      obtain ⟨tk, _, rfl⟩ := List.mem_map.1 (List.mem_of_getElem? h)
      exact str_tk _ tk
    | error p =>
      rw [hl] at hR
      subst hR
      exact ⟨σ, _, rfl, rfl, hobj, hcl, .ret _ _ (str_tup3 .nils (.int _ _) (.int _ _)), rfl, by rw [lexA, if_neg hbig, hl]⟩
end Go.Proofs.YtjeccchbeflddaaGreatDoor.Ga
