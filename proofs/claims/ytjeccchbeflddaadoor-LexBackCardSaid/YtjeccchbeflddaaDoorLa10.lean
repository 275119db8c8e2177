/- lex.Text: quoted texts. -/
import Derived.Test.YtjeccchbeflddaaDoorLa9
set_option linter.unusedVariables false
set_option linter.unusedSimpArgs false
namespace Go.Proofs.YtjeccchbeflddaaDoor.Ga
open Lx

def c_quoted : SFun := ⟨61, (.seq (.reg [⟨(some 2), (.mov (.const (.str []))), none⟩]) (.seq (.reg [⟨(some 6), (.buildSl 1 (.int .u8 0) 1 [(0, (.const (.int .u8 34)))]), none⟩, ⟨(some 3), (.mov (.tmp 6)), none⟩]) (.seq (.seq (.reg [⟨(some 7), (.mov (.tmp 0)), none⟩, ⟨(some 8), (.len .str (.tmp 7)), none⟩, ⟨(some 9), (.mov (.const (.int .i64 0))), none⟩]) (.block 0 (.loop (.seq (.reg [⟨(some 10), (.bin .lss .none (.tmp 9) (.tmp 8)), none⟩]) (.seq (.cond (.tmp 10) .skip (.exit 0)) (.seq (.block 1 (.seq (.reg [⟨(some 11), (.mov (.tmp 9)), none⟩, ⟨(some 4), (.mov (.tmp 11)), none⟩]) (.seq (.reg [⟨(some 12), (.mov (.tmp 0)), none⟩, ⟨(some 13), (.mov (.tmp 4)), none⟩, ⟨(some 14), (.idxStr (.tmp 12) (.tmp 13)), none⟩, ⟨(some 5), (.mov (.tmp 14)), none⟩]) (.block 2 (.seq (.reg [⟨(some 20), (.mov (.tmp 5)), none⟩, ⟨(some 21), (.bin .eql .none (.tmp 20) (.const (.int .u8 34))), none⟩, ⟨(some 22), (.mov (.tmp 21)), none⟩, ⟨(some 23), (.mov (.tmp 5)), (some (22, false))⟩, ⟨(some 24), (.bin .eql .none (.tmp 23) (.const (.int .u8 92))), (some (22, false))⟩, ⟨(some 25), (.pick (.tmp 22) (.const (.bool true)) (.tmp 24)), none⟩, ⟨(some 19), (.mov (.tmp 25)), none⟩]) (.cond (.tmp 19) (.reg [⟨(some 26), (.mov (.tmp 3)), none⟩, ⟨(some 27), (.mov (.tmp 5)), none⟩, ⟨(some 28), (.buildSl 1 (.int .u8 0) 2 [(0, (.const (.int .u8 92))), (1, (.tmp 27))]), none⟩, ⟨(some 29), (.append false 1 1 (.tmp 26) (.tmp 28)), none⟩, ⟨(some 3), (.mov (.tmp 29)), none⟩]) (.seq (.reg [⟨(some 31), (.mov (.tmp 5)), none⟩, ⟨(some 32), (.bin .eql .none (.tmp 31) (.const (.int .u8 10))), none⟩, ⟨(some 30), (.mov (.tmp 32)), none⟩]) (.cond (.tmp 30) (.reg [⟨(some 33), (.mov (.tmp 3)), none⟩, ⟨(some 34), (.append true 1 1 (.tmp 33) (.const (.str [92, 110]))), none⟩, ⟨(some 3), (.mov (.tmp 34)), none⟩]) (.seq (.reg [⟨(some 36), (.mov (.tmp 5)), none⟩, ⟨(some 37), (.bin .eql .none (.tmp 36) (.const (.int .u8 9))), none⟩, ⟨(some 35), (.mov (.tmp 37)), none⟩]) (.cond (.tmp 35) (.reg [⟨(some 38), (.mov (.tmp 3)), none⟩, ⟨(some 39), (.append true 1 1 (.tmp 38) (.const (.str [92, 116]))), none⟩, ⟨(some 3), (.mov (.tmp 39)), none⟩]) (.seq (.reg [⟨(some 41), (.mov (.tmp 5)), none⟩, ⟨(some 42), (.bin .lss .none (.tmp 41) (.const (.int .u8 32))), none⟩, ⟨(some 43), (.mov (.tmp 42)), none⟩, ⟨(some 44), (.mov (.tmp 5)), (some (43, false))⟩, ⟨(some 45), (.bin .gtr .none (.tmp 44) (.const (.int .u8 126))), (some (43, false))⟩, ⟨(some 46), (.pick (.tmp 43) (.const (.bool true)) (.tmp 45)), none⟩, ⟨(some 40), (.mov (.tmp 46)), none⟩]) (.cond (.tmp 40) (.dreg [(0, ⟨(some 47), (.mov (.tmp 3)), none⟩), (0, ⟨(some 48), (.mov (.tmp 5)), none⟩), (0, ⟨(some 49), (.bin .shr .none (.tmp 48) (.const (.int .u64 4))), none⟩), (0, ⟨(some 50), (.idxStr (.const (.str [48, 49, 50, 51, 52, 53, 54, 55, 56, 57, 97, 98, 99, 100, 101, 102])) (.tmp 49)), none⟩), (0, ⟨(some 51), (.mov (.tmp 5)), none⟩), (0, ⟨(some 52), (.bin .and .none (.tmp 51) (.const (.int .u8 15))), none⟩), (0, ⟨(some 53), (.idxStr (.const (.str [48, 49, 50, 51, 52, 53, 54, 55, 56, 57, 97, 98, 99, 100, 101, 102])) (.tmp 52)), none⟩), (1, ⟨(some 54), (.buildSl 1 (.int .u8 0) 4 [(0, (.const (.int .u8 92))), (1, (.const (.int .u8 120))), (2, (.tmp 50)), (3, (.tmp 53))]), none⟩), (1, ⟨(some 55), (.append false 1 1 (.tmp 47) (.tmp 54)), none⟩), (2, ⟨(some 3), (.mov (.tmp 55)), none⟩)]) (.reg [⟨(some 15), (.mov (.tmp 3)), none⟩, ⟨(some 16), (.mov (.tmp 5)), none⟩, ⟨(some 17), (.buildSl 1 (.int .u8 0) 1 [(0, (.tmp 16))]), none⟩, ⟨(some 18), (.append false 1 1 (.tmp 15) (.tmp 17)), none⟩, ⟨(some 3), (.mov (.tmp 18)), none⟩]))))))))))))) (.reg [⟨(some 56), (.bin .add .none (.tmp 9) (.const (.int .i64 1))), none⟩, ⟨(some 9), (.mov (.tmp 56)), none⟩]))))))) (.seq (.reg [⟨(some 57), (.mov (.tmp 3)), none⟩, ⟨(some 58), (.buildSl 1 (.int .u8 0) 1 [(0, (.const (.int .u8 34)))]), none⟩, ⟨(some 59), (.append false 1 1 (.tmp 57) (.tmp 58)), none⟩, ⟨(some 60), (.toStr (.tmp 59)), none⟩, ⟨(some 2), (.mov (.tmp 60)), none⟩]) .ret)))), [(.tmp 2)]⟩
theorem c_quoted_ok : cFun Tryd.prog Tryd.f20 = some c_quoted := by kernel_rfl
def c_lextext : SFun := ⟨20, (.seq (.reg [⟨(some 1), (.box (.tmp 0)), none⟩, ⟨(some 2), (.mov (.const (.str []))), none⟩]) (.seq (.seq (.reg [⟨(some 3), (.fieldAddr 0 (.tmp 1)), none⟩, ⟨(some 4), (.load false 1 (.tmp 3)), none⟩]) (.block 0 (.seq (.reg [⟨(some 6), (.bin .eql .none (.tmp 4) (.const (.int .i64 1))), none⟩, ⟨(some 5), (.mov (.tmp 6)), none⟩]) (.cond (.tmp 5) (.seq (.reg [⟨(some 7), (.fieldAddr 2 (.tmp 1)), none⟩, ⟨(some 8), (.load false 1 (.tmp 7)), none⟩, ⟨(some 9), (.call 19 [(.tmp 8)]), none⟩, ⟨(some 10), (.call 18 [(.tmp 9)]), none⟩, ⟨(some 2), (.mov (.tmp 10)), none⟩]) .ret) (.seq (.reg [⟨(some 12), (.bin .eql .none (.tmp 4) (.const (.int .i64 2))), none⟩, ⟨(some 11), (.mov (.tmp 12)), none⟩]) (.cond (.tmp 11) (.seq (.reg [⟨(some 13), (.fieldAddr 3 (.tmp 1)), none⟩, ⟨(some 14), (.load false 1 (.tmp 13)), none⟩, ⟨(some 15), (.call 20 [(.tmp 14)]), none⟩, ⟨(some 2), (.mov (.tmp 15)), none⟩]) .ret) (.seq (.reg [⟨(some 17), (.bin .eql .none (.tmp 4) (.const (.int .i64 0))), none⟩, ⟨(some 16), (.mov (.tmp 17)), none⟩]) (.cond (.tmp 16) (.seq (.reg [⟨(some 2), (.mov (.const (.str []))), none⟩]) .ret) .skip)))))))) (.seq (.reg [⟨(some 18), (.fieldAddr 3 (.tmp 1)), none⟩, ⟨(some 19), (.load false 1 (.tmp 18)), none⟩, ⟨(some 2), (.mov (.tmp 19)), none⟩]) .ret))), [(.tmp 2)]⟩
theorem c_lextext_ok : cFun Tryd.prog Tryd.f12 = some c_lextext := by kernel_rfl

/-- A slice of bytes that grows, from a whole one. -/
def BufF (n : Nat) (σ : St) (v : List UInt8) (b : A) : Prop := b = .sl .full 1 (bs v) ∨ ∃ t, n ≤ t ∧ t < σ.n ∧ σ.obj t = .row (bs v).length ∧ b = .sl (.tok t) 1 (bs v)

theorem bs_app (v w : List UInt8) : bs v ++ bs w = bs (v ++ w) := by simp [bs]
theorem bs_all (v : List UInt8) : ∀ e ∈ bs v, e.cells.length = 1 ∧ scalars e.cells = true := fun e he => by
  obtain ⟨t, _, rfl⟩ := List.mem_map.1 he
  exact ⟨rfl, rfl⟩

theorem app_step {n : Nat} {σ : St} {v w : List UInt8} {o : Own} {m : Nat → Nat → Prop} {k : A → St → Prop} (hm : ∀ t, n ≤ t → m t 0) (ho : BufF n σ v (.sl o 1 (bs v))) (hlen : v.length + w.length ≤ 10000000) (hn : n ≤ σ.n) (h : ∀ b' σ', BufF n σ' (v ++ w) b' → σ.n ≤ σ'.n → k b' σ') (hw : w ≠ [] := by simp) :
    appendS m σ 1 1 o (bs v) (bs w) k := by
  refine ⟨by rw [bs_len, bs_len]; omega, by rw [bs_len, bs_len]; omega, bs_all w, ?_⟩
  rcases ho with e | ⟨t, t1, t2, t3, e⟩
  · injection e with e
    subst e
    refine ⟨fun q => absurd (List.map_eq_nil_iff.1 q) hw, ?_⟩
    refine h _ _ (.inr ⟨σ.n, hn, by rw [St.new_n]; omega, by rw [St.new_same, bs_app], by rw [bs_app]⟩) (by rw [St.new_n]; omega)
  · injection e with e
    subst e
    refine ⟨hm t t1, t3, h _ _ (.inr ⟨t, t1, by rw [St.set_n]; exact t2, by rw [St.set_same, bs_app], by rw [bs_app]⟩) (by rw [St.set_n]; omega)⟩

theorem nib_all : ∀ n : _root_.Fin 256, 0 ≤ (((UInt8.ofNat n.val).toNat : Int)).fdiv (2 ^ min (4 : Int).toNat IntKind.u8.bits) ∧ ((((UInt8.ofNat n.val).toNat : Int)).fdiv (2 ^ min (4 : Int).toNat IntKind.u8.bits)).toNat = (UInt8.ofNat n.val).toNat / 16 ∧
    0 ≤ IntKind.u8.wrap ((BitVec.ofInt IntKind.u8.bits ((UInt8.ofNat n.val).toNat : Int) &&& BitVec.ofInt IntKind.u8.bits 15).toNat : Int) ∧ (IntKind.u8.wrap ((BitVec.ofInt IntKind.u8.bits ((UInt8.ofNat n.val).toNat : Int) &&& BitVec.ofInt IntKind.u8.bits 15).toNat : Int)).toNat = (UInt8.ofNat n.val).toNat % 16 := by decide +kernel
theorem nib (c : UInt8) : 0 ≤ ((c.toNat : Int)).fdiv (2 ^ min (4 : Int).toNat IntKind.u8.bits) ∧ (((c.toNat : Int)).fdiv (2 ^ min (4 : Int).toNat IntKind.u8.bits)).toNat = c.toNat / 16 ∧
    0 ≤ IntKind.u8.wrap ((BitVec.ofInt IntKind.u8.bits (c.toNat : Int) &&& BitVec.ofInt IntKind.u8.bits 15).toNat : Int) ∧ (IntKind.u8.wrap ((BitVec.ofInt IntKind.u8.bits (c.toNat : Int) &&& BitVec.ofInt IntKind.u8.bits 15).toNat : Int)).toNat = c.toNat % 16 := by
  have := nib_all ⟨c.toNat, c.toNat_lt⟩
  have e : UInt8.ofNat c.toNat = c := by simp
  rw [e] at this
  exact this

theorem quote_step {s : List UInt8} {i : Nat} (h : i < s.length) : (s.take (i + 1)).flatMap quoteB = (s.take i).flatMap quoteB ++ quoteB (s.getD i 0) := by
  rw [List.take_add_one, List.flatMap_append]
  have : s[i]? = some (s.getD i 0) := by simp [h]
  rw [this]
  simp

section
attribute [local irreducible] Bc ACallsW ALoop Fin St.set St.new appendS
theorem quoted_raw (s : List UInt8) (hs : s.length ≤ 1000000) (σ : St) :
    ACalls Tryd.prog 20 [.str s] σ (fun id _ => σ.n ≤ id) (fun e σ' => e = .ret (.str (quote s))) := by
  refine acalls_go mixed Tryd.func20 c_quoted_ok (Nat.le_of_ble_eq_true rfl) ?_
  conv => whnf
  repeat' (first
      | (refine Bc_t ?_; conv => whnf)
      | (refine Bc_f ?_; conv => whnf)
      | (rw [g1]; conv => whnf)
      | (rw [g2]; conv => whnf)
      | (rw [g3]; conv => whnf)
      | (rw [g4]; conv => whnf)
      | (rw [g5]; conv => whnf)
      | (rw [g6]; conv => whnf)
      | (rw [hr]; conv => whnf)
      | (refine Bc_split (fun hb => ?_) (fun hb => ?_) <;> (rw [hb]; conv => whnf))
      | (refine And.intro (by first
          | omega
          | assumption
          | (simp only [St.set_n, St.new_n] at *; omega)
          | (simp; done)
          | (simp; omega)
          | (intro _; exact trivial)
          | (intro _; intro _ _; exact trivial)
          | (intro _; intro j hj; first | rfl | (have hj' : j < 1 := hj
                                                 obtain rfl : j = 0 := by omega
                                                 exact ⟨rfl, rfl⟩))
          | (intro j hj; obtain rfl : j = 0 := by omega
             first | exact ⟨rfl, rfl⟩ | exact .inl ⟨rfl, rfl⟩ | exact .inr (by omega) | exact ⟨by assumption, by assumption⟩ | assumption | trivial)
          | exact .inr (by assumption)
          | (intro j hj; exact .inr (by simp only [St.set_n, St.new_n] at *; omega))
          | (intro e he; rcases List.mem_singleton.1 he with rfl; exact ⟨rfl, rfl⟩)
          | (rw [St.set_ne _ _ (by first | assumption | omega | (simp only [St.set_n, St.new_n] at *; omega))]; assumption)
          | (rw [St.set_ne _ _ (by first | assumption | omega | (simp only [St.set_n, St.new_n] at *; omega)), St.set_ne _ _ (by first | assumption | omega | (simp only [St.set_n, St.new_n] at *; omega))]; assumption)
          | (simp only [decide_eq_true_eq, decide_eq_false_iff_not, Bool.not_eq_true, beq_iff_eq, beq_eq_false_iff_ne, ne_eq, ge_iff_le, gt_iff_lt] at *; omega)) ?_; conv => whnf)
      | (rw [St.set_same]; conv => whnf)
      | (rw [St.new_same]; conv => whnf)
      | (rw [St.set_ne _ _ (by first | assumption | omega | (simp only [St.set_n, St.new_n] at *; omega))]; conv => whnf)
      | (rw [St.new_ne _ _ (by first | assumption | omega | (simp only [St.set_n, St.new_n] at *; omega))]; conv => whnf))
  unfold ALoop
  refine ⟨fun k env σ1 => ∃ (i : Nat) (b : A), k = s.length - i ∧ i ≤ s.length ∧ σ.n ≤ σ1.n ∧ BufF σ.n σ1 (34 :: (s.take i).flatMap quoteB) b ∧ ((s.take i).flatMap quoteB).length ≤ 4 * i ∧
      env = [(0, .str s), (8, .int .i64 s.length), (9, .int .i64 i), (3, b)], _,
    [(0, .str s), (8, .int .i64 s.length), (9, .int .i64 0), (3, .sl .full 1 (bs [34]))], ⟨rfl, rfl, rfl, rfl, trivial⟩, ⟨0, _, rfl, by omega, Nat.le_refl _, .inl rfl, by simp, rfl⟩, ?_⟩
  rintro k env σ1 ⟨i, b, rfl, h1, h2, hbuf, h3, rfl⟩
  have hbl := bs_len (34 :: (s.take i).flatMap quoteB)
  by_cases hi : i < s.length
  · have g1 : decide ((i : Int) < s.length) = true := by simp; omega
    have hone := quoteB_len (s.getD i 0)
    have next : ∀ (b' : A) (σ' : St) (env' : Env), BufF σ.n σ' ((34 :: (s.take i).flatMap quoteB) ++ quoteB (s.getD i 0)) b' → σ1.n ≤ σ'.n → EnvSub [(0, .str s), (8, .int .i64 s.length), (9, .int .i64 (i + 1 : Nat)), (3, b')] env' →
        ∃ k' env'', k' < s.length - i ∧ EnvSub env'' env' ∧ ∃ (i : Nat) (b : A), k' = s.length - i ∧ i ≤ s.length ∧ σ.n ≤ σ'.n ∧ BufF σ.n σ' (34 :: (s.take i).flatMap quoteB) b ∧ ((s.take i).flatMap quoteB).length ≤ 4 * i ∧
          env'' = [(0, .str s), (8, .int .i64 s.length), (9, .int .i64 i), (3, b)] := by
      intro b' σ' env' hb' hn' he
      refine ⟨_, _, ?_, he, i + 1, b', rfl, hi, by omega, ?_, ?_, rfl⟩
      · omega
      · rw [quote_step hi]; exact hb'
      · rw [quote_step hi, List.length_append]; omega
    have hinc : IntKind.i64.wrap ((i : Int) + 1) = ((i + 1 : Nat) : Int) := by rw [w64 (by omega) (by omega)]; omega
    have hb0 := hbuf
    have hvl : (34 :: (s.take i).flatMap quoteB).length + (quoteB (s.getD i 0)).length ≤ 10000000 := by simp only [List.length_cons]; omega
    have c34 : (((s.getD (i : Int).toNat 0).toNat : Int) == 34) = (s.getD i 0 == 34) := by
      rw [Bool.eq_iff_iff, beq_iff_eq, beq_iff_eq]; exact ⟨fun h => UInt8.toNat_inj.1 (by have h2 : (34 : UInt8).toNat = 34 := rfl; have h3 : s.getD (i : Int).toNat 0 = s.getD i 0 := rfl; rw [h3] at h; omega), fun h => by have h3 : s.getD (i : Int).toNat 0 = s.getD i 0 := rfl; rw [h3, h]; rfl⟩
    have c92 : (((s.getD (i : Int).toNat 0).toNat : Int) == 92) = (s.getD i 0 == 92) := by
      rw [Bool.eq_iff_iff, beq_iff_eq, beq_iff_eq]; exact ⟨fun h => UInt8.toNat_inj.1 (by have h2 : (92 : UInt8).toNat = 92 := rfl; have h3 : s.getD (i : Int).toNat 0 = s.getD i 0 := rfl; rw [h3] at h; omega), fun h => by have h3 : s.getD (i : Int).toNat 0 = s.getD i 0 := rfl; rw [h3, h]; rfl⟩
    have c10 : (((s.getD (i : Int).toNat 0).toNat : Int) == 10) = (s.getD i 0 == 10) := by
      rw [Bool.eq_iff_iff, beq_iff_eq, beq_iff_eq]; exact ⟨fun h => UInt8.toNat_inj.1 (by have h2 : (10 : UInt8).toNat = 10 := rfl; have h3 : s.getD (i : Int).toNat 0 = s.getD i 0 := rfl; rw [h3] at h; omega), fun h => by have h3 : s.getD (i : Int).toNat 0 = s.getD i 0 := rfl; rw [h3, h]; rfl⟩
    have c9 : (((s.getD (i : Int).toNat 0).toNat : Int) == 9) = (s.getD i 0 == 9) := by
      rw [Bool.eq_iff_iff, beq_iff_eq, beq_iff_eq]; exact ⟨fun h => UInt8.toNat_inj.1 (by have h2 : (9 : UInt8).toNat = 9 := rfl; have h3 : s.getD (i : Int).toNat 0 = s.getD i 0 := rfl; rw [h3] at h; omega), fun h => by have h3 : s.getD (i : Int).toNat 0 = s.getD i 0 := rfl; rw [h3, h]; rfl⟩
    have hq : ∀ w, quoteB (s.getD i 0) = w → quoteB (s.getD i 0) = w := fun _ h => h
    clear hbuf
    obtain ⟨o, rfl⟩ : ∃ o, b = .sl o 1 (bs (34 :: (s.take i).flatMap quoteB)) := by rcases hb0 with rfl | ⟨t, _, _, _, rfl⟩ <;> exact ⟨_, rfl⟩
    cases h34 : (s.getD i 0 == 34) with
    | true =>
      have g2 := c34.trans h34
      have hw : quoteB (s.getD i 0) = [92, s.getD i 0] := by unfold quoteB; rw [h34]; rfl
      conv => whnf
      repeat' (first
          | (refine Bc_t ?_; conv => whnf)
          | (refine Bc_f ?_; conv => whnf)
          | (rw [g1]; conv => whnf)
          | (rw [g2]; conv => whnf)
          | (rw [g3]; conv => whnf)
          | (rw [g4]; conv => whnf)
          | (rw [g5]; conv => whnf)
          | (rw [g6]; conv => whnf)
          | (rw [hr]; conv => whnf)
          | (refine Bc_split (fun hb => ?_) (fun hb => ?_) <;> (rw [hb]; conv => whnf))
          | (refine And.intro (by first
              | omega
              | assumption
              | (simp only [St.set_n, St.new_n] at *; omega)
              | (simp; done)
              | (simp; omega)
              | (intro _; exact trivial)
              | (intro _; intro _ _; exact trivial)
              | (intro _; intro j hj; first | rfl | (have hj' : j < 1 := hj
                                                     obtain rfl : j = 0 := by omega
                                                     exact ⟨rfl, rfl⟩))
              | (intro j hj; obtain rfl : j = 0 := by omega
                 first | exact ⟨rfl, rfl⟩ | exact .inl ⟨rfl, rfl⟩ | exact .inr (by omega) | exact ⟨by assumption, by assumption⟩ | assumption | trivial)
              | exact .inr (by assumption)
              | (intro j hj; exact .inr (by simp only [St.set_n, St.new_n] at *; omega))
              | (intro e he; rcases List.mem_singleton.1 he with rfl; exact ⟨rfl, rfl⟩)
              | (rw [St.set_ne _ _ (by first | assumption | omega | (simp only [St.set_n, St.new_n] at *; omega))]; assumption)
              | (rw [St.set_ne _ _ (by first | assumption | omega | (simp only [St.set_n, St.new_n] at *; omega)), St.set_ne _ _ (by first | assumption | omega | (simp only [St.set_n, St.new_n] at *; omega))]; assumption)
              | (simp only [decide_eq_true_eq, decide_eq_false_iff_not, Bool.not_eq_true, beq_iff_eq, beq_eq_false_iff_ne, ne_eq, ge_iff_le, gt_iff_lt] at *; omega)) ?_; conv => whnf)
          | (rw [St.set_same]; conv => whnf)
          | (rw [St.new_same]; conv => whnf)
          | (rw [St.set_ne _ _ (by first | assumption | omega | (simp only [St.set_n, St.new_n] at *; omega))]; conv => whnf)
          | (rw [St.new_ne _ _ (by first | assumption | omega | (simp only [St.set_n, St.new_n] at *; omega))]; conv => whnf))
      rw [hw] at hvl next
      refine app_step (w := [92, s.getD i 0]) (fun _ h => h) hb0 hvl h2 (fun b' σ' hb' hn' => ?_)
      conv => whnf
      exact next b' σ' _ hb' hn' ⟨rfl, rfl, congrArg (fun z => some (A.int .i64 z)) hinc, rfl, trivial⟩
    | false =>
    cases h92 : (s.getD i 0 == 92) with
    | true =>
      have g2 := c34.trans h34
      have g3 := c92.trans h92
      have hw : quoteB (s.getD i 0) = [92, s.getD i 0] := by unfold quoteB; rw [h34, h92]; rfl
      conv => whnf
      repeat' (first
          | (refine Bc_t ?_; conv => whnf)
          | (refine Bc_f ?_; conv => whnf)
          | (rw [g1]; conv => whnf)
          | (rw [g2]; conv => whnf)
          | (rw [g3]; conv => whnf)
          | (rw [g4]; conv => whnf)
          | (rw [g5]; conv => whnf)
          | (rw [g6]; conv => whnf)
          | (rw [hr]; conv => whnf)
          | (refine Bc_split (fun hb => ?_) (fun hb => ?_) <;> (rw [hb]; conv => whnf))
          | (refine And.intro (by first
              | omega
              | assumption
              | (simp only [St.set_n, St.new_n] at *; omega)
              | (simp; done)
              | (simp; omega)
              | (intro _; exact trivial)
              | (intro _; intro _ _; exact trivial)
              | (intro _; intro j hj; first | rfl | (have hj' : j < 1 := hj
                                                     obtain rfl : j = 0 := by omega
                                                     exact ⟨rfl, rfl⟩))
              | (intro j hj; obtain rfl : j = 0 := by omega
                 first | exact ⟨rfl, rfl⟩ | exact .inl ⟨rfl, rfl⟩ | exact .inr (by omega) | exact ⟨by assumption, by assumption⟩ | assumption | trivial)
              | exact .inr (by assumption)
              | (intro j hj; exact .inr (by simp only [St.set_n, St.new_n] at *; omega))
              | (intro e he; rcases List.mem_singleton.1 he with rfl; exact ⟨rfl, rfl⟩)
              | (rw [St.set_ne _ _ (by first | assumption | omega | (simp only [St.set_n, St.new_n] at *; omega))]; assumption)
              | (rw [St.set_ne _ _ (by first | assumption | omega | (simp only [St.set_n, St.new_n] at *; omega)), St.set_ne _ _ (by first | assumption | omega | (simp only [St.set_n, St.new_n] at *; omega))]; assumption)
              | (simp only [decide_eq_true_eq, decide_eq_false_iff_not, Bool.not_eq_true, beq_iff_eq, beq_eq_false_iff_ne, ne_eq, ge_iff_le, gt_iff_lt] at *; omega)) ?_; conv => whnf)
          | (rw [St.set_same]; conv => whnf)
          | (rw [St.new_same]; conv => whnf)
          | (rw [St.set_ne _ _ (by first | assumption | omega | (simp only [St.set_n, St.new_n] at *; omega))]; conv => whnf)
          | (rw [St.new_ne _ _ (by first | assumption | omega | (simp only [St.set_n, St.new_n] at *; omega))]; conv => whnf))
      rw [hw] at hvl next
      refine app_step (w := [92, s.getD i 0]) (fun _ h => h) hb0 hvl h2 (fun b' σ' hb' hn' => ?_)
      conv => whnf
      exact next b' σ' _ hb' hn' ⟨rfl, rfl, congrArg (fun z => some (A.int .i64 z)) hinc, rfl, trivial⟩
    | false =>
    cases h10 : (s.getD i 0 == 10) with
    | true =>
      have g2 := c34.trans h34
      have g3 := c92.trans h92
      have g4 := c10.trans h10
      have hw : quoteB (s.getD i 0) = [92, 110] := by unfold quoteB; rw [h34, h92, h10]; rfl
      conv => whnf
      repeat' (first
          | (refine Bc_t ?_; conv => whnf)
          | (refine Bc_f ?_; conv => whnf)
          | (rw [g1]; conv => whnf)
          | (rw [g2]; conv => whnf)
          | (rw [g3]; conv => whnf)
          | (rw [g4]; conv => whnf)
          | (rw [g5]; conv => whnf)
          | (rw [g6]; conv => whnf)
          | (rw [hr]; conv => whnf)
          | (refine Bc_split (fun hb => ?_) (fun hb => ?_) <;> (rw [hb]; conv => whnf))
          | (refine And.intro (by first
              | omega
              | assumption
              | (simp only [St.set_n, St.new_n] at *; omega)
              | (simp; done)
              | (simp; omega)
              | (intro _; exact trivial)
              | (intro _; intro _ _; exact trivial)
              | (intro _; intro j hj; first | rfl | (have hj' : j < 1 := hj
                                                     obtain rfl : j = 0 := by omega
                                                     exact ⟨rfl, rfl⟩))
              | (intro j hj; obtain rfl : j = 0 := by omega
                 first | exact ⟨rfl, rfl⟩ | exact .inl ⟨rfl, rfl⟩ | exact .inr (by omega) | exact ⟨by assumption, by assumption⟩ | assumption | trivial)
              | exact .inr (by assumption)
              | (intro j hj; exact .inr (by simp only [St.set_n, St.new_n] at *; omega))
              | (intro e he; rcases List.mem_singleton.1 he with rfl; exact ⟨rfl, rfl⟩)
              | (rw [St.set_ne _ _ (by first | assumption | omega | (simp only [St.set_n, St.new_n] at *; omega))]; assumption)
              | (rw [St.set_ne _ _ (by first | assumption | omega | (simp only [St.set_n, St.new_n] at *; omega)), St.set_ne _ _ (by first | assumption | omega | (simp only [St.set_n, St.new_n] at *; omega))]; assumption)
              | (simp only [decide_eq_true_eq, decide_eq_false_iff_not, Bool.not_eq_true, beq_iff_eq, beq_eq_false_iff_ne, ne_eq, ge_iff_le, gt_iff_lt] at *; omega)) ?_; conv => whnf)
          | (rw [St.set_same]; conv => whnf)
          | (rw [St.new_same]; conv => whnf)
          | (rw [St.set_ne _ _ (by first | assumption | omega | (simp only [St.set_n, St.new_n] at *; omega))]; conv => whnf)
          | (rw [St.new_ne _ _ (by first | assumption | omega | (simp only [St.set_n, St.new_n] at *; omega))]; conv => whnf))
      rw [hw] at hvl next
      refine app_step (w := [92, 110]) (fun _ h => h) hb0 hvl h2 (fun b' σ' hb' hn' => ?_)
      conv => whnf
      exact next b' σ' _ hb' hn' ⟨rfl, rfl, congrArg (fun z => some (A.int .i64 z)) hinc, rfl, trivial⟩
    | false =>
    cases h9 : (s.getD i 0 == 9) with
    | true =>
      have g2 := c34.trans h34
      have g3 := c92.trans h92
      have g4 := c10.trans h10
      have g5 := c9.trans h9
      have hw : quoteB (s.getD i 0) = [92, 116] := by unfold quoteB; rw [h34, h92, h10, h9]; rfl
      conv => whnf
      repeat' (first
          | (refine Bc_t ?_; conv => whnf)
          | (refine Bc_f ?_; conv => whnf)
          | (rw [g1]; conv => whnf)
          | (rw [g2]; conv => whnf)
          | (rw [g3]; conv => whnf)
          | (rw [g4]; conv => whnf)
          | (rw [g5]; conv => whnf)
          | (rw [g6]; conv => whnf)
          | (rw [hr]; conv => whnf)
          | (refine Bc_split (fun hb => ?_) (fun hb => ?_) <;> (rw [hb]; conv => whnf))
          | (refine And.intro (by first
              | omega
              | assumption
              | (simp only [St.set_n, St.new_n] at *; omega)
              | (simp; done)
              | (simp; omega)
              | (intro _; exact trivial)
              | (intro _; intro _ _; exact trivial)
              | (intro _; intro j hj; first | rfl | (have hj' : j < 1 := hj
                                                     obtain rfl : j = 0 := by omega
                                                     exact ⟨rfl, rfl⟩))
              | (intro j hj; obtain rfl : j = 0 := by omega
                 first | exact ⟨rfl, rfl⟩ | exact .inl ⟨rfl, rfl⟩ | exact .inr (by omega) | exact ⟨by assumption, by assumption⟩ | assumption | trivial)
              | exact .inr (by assumption)
              | (intro j hj; exact .inr (by simp only [St.set_n, St.new_n] at *; omega))
              | (intro e he; rcases List.mem_singleton.1 he with rfl; exact ⟨rfl, rfl⟩)
              | (rw [St.set_ne _ _ (by first | assumption | omega | (simp only [St.set_n, St.new_n] at *; omega))]; assumption)
              | (rw [St.set_ne _ _ (by first | assumption | omega | (simp only [St.set_n, St.new_n] at *; omega)), St.set_ne _ _ (by first | assumption | omega | (simp only [St.set_n, St.new_n] at *; omega))]; assumption)
              | (simp only [decide_eq_true_eq, decide_eq_false_iff_not, Bool.not_eq_true, beq_iff_eq, beq_eq_false_iff_ne, ne_eq, ge_iff_le, gt_iff_lt] at *; omega)) ?_; conv => whnf)
          | (rw [St.set_same]; conv => whnf)
          | (rw [St.new_same]; conv => whnf)
          | (rw [St.set_ne _ _ (by first | assumption | omega | (simp only [St.set_n, St.new_n] at *; omega))]; conv => whnf)
          | (rw [St.new_ne _ _ (by first | assumption | omega | (simp only [St.set_n, St.new_n] at *; omega))]; conv => whnf))
      rw [hw] at hvl next
      refine app_step (w := [92, 116]) (fun _ h => h) hb0 hvl h2 (fun b' σ' hb' hn' => ?_)
      conv => whnf
      exact next b' σ' _ hb' hn' ⟨rfl, rfl, congrArg (fun z => some (A.int .i64 z)) hinc, rfl, trivial⟩
    | false =>
      have g2 := c34.trans h34
      have g3 := c92.trans h92
      have g4 := c10.trans h10
      have g5 := c9.trans h9
      by_cases hlo : 32 ≤ (s.getD i 0).toNat ∧ (s.getD i 0).toNat ≤ 126
      · have hw : quoteB (s.getD i 0) = [s.getD i 0] := by
          unfold quoteB
          rw [h34, h92, h10, h9]
          simp only [Bool.or_false, Bool.false_eq_true, if_false]
          rw [if_neg (by simp only [Bool.or_eq_true, decide_eq_true_eq]; omega)]
        have g6 : decide (((s.getD (i : Int).toNat 0).toNat : Int) < 32) = false := decide_eq_false (by have h3 : s.getD (i : Int).toNat 0 = s.getD i 0 := rfl; rw [h3]; omega)
        have hr : decide (((s.getD (i : Int).toNat 0).toNat : Int) > 126) = false := decide_eq_false (by have h3 : s.getD (i : Int).toNat 0 = s.getD i 0 := rfl; rw [h3]; omega)
        conv => whnf
        repeat' (first
            | (refine Bc_t ?_; conv => whnf)
            | (refine Bc_f ?_; conv => whnf)
            | (rw [g1]; conv => whnf)
            | (rw [g2]; conv => whnf)
            | (rw [g3]; conv => whnf)
            | (rw [g4]; conv => whnf)
            | (rw [g5]; conv => whnf)
            | (rw [g6]; conv => whnf)
            | (rw [hr]; conv => whnf)
            | (refine Bc_split (fun hb => ?_) (fun hb => ?_) <;> (rw [hb]; conv => whnf))
            | (refine And.intro (by first
                | omega
                | assumption
                | (simp only [St.set_n, St.new_n] at *; omega)
                | (simp; done)
                | (simp; omega)
                | (intro _; exact trivial)
                | (intro _; intro _ _; exact trivial)
                | (intro _; intro j hj; first | rfl | (have hj' : j < 1 := hj
                                                       obtain rfl : j = 0 := by omega
                                                       exact ⟨rfl, rfl⟩))
                | (intro j hj; obtain rfl : j = 0 := by omega
                   first | exact ⟨rfl, rfl⟩ | exact .inl ⟨rfl, rfl⟩ | exact .inr (by omega) | exact ⟨by assumption, by assumption⟩ | assumption | trivial)
                | exact .inr (by assumption)
                | (intro j hj; exact .inr (by simp only [St.set_n, St.new_n] at *; omega))
                | (intro e he; rcases List.mem_singleton.1 he with rfl; exact ⟨rfl, rfl⟩)
                | (rw [St.set_ne _ _ (by first | assumption | omega | (simp only [St.set_n, St.new_n] at *; omega))]; assumption)
                | (rw [St.set_ne _ _ (by first | assumption | omega | (simp only [St.set_n, St.new_n] at *; omega)), St.set_ne _ _ (by first | assumption | omega | (simp only [St.set_n, St.new_n] at *; omega))]; assumption)
                | (simp only [decide_eq_true_eq, decide_eq_false_iff_not, Bool.not_eq_true, beq_iff_eq, beq_eq_false_iff_ne, ne_eq, ge_iff_le, gt_iff_lt] at *; omega)) ?_; conv => whnf)
            | (rw [St.set_same]; conv => whnf)
            | (rw [St.new_same]; conv => whnf)
            | (rw [St.set_ne _ _ (by first | assumption | omega | (simp only [St.set_n, St.new_n] at *; omega))]; conv => whnf)
            | (rw [St.new_ne _ _ (by first | assumption | omega | (simp only [St.set_n, St.new_n] at *; omega))]; conv => whnf))
        rw [hw] at hvl next
        refine app_step (w := [s.getD i 0]) (fun _ h => h) hb0 hvl h2 (fun b' σ' hb' hn' => ?_)
        conv => whnf
        exact next b' σ' _ hb' hn' ⟨rfl, rfl, congrArg (fun z => some (A.int .i64 z)) hinc, rfl, trivial⟩
      · have hw : quoteB (s.getD i 0) = [92, 120, hexD8 ((s.getD i 0).toNat / 16), hexD8 ((s.getD i 0).toNat % 16)] := by
          unfold quoteB
          rw [h34, h92, h10, h9]
          simp only [Bool.or_false, Bool.false_eq_true, if_false]
          rw [if_pos (by simp only [Bool.or_eq_true, decide_eq_true_eq]; omega)]
        have h3 : s.getD (i : Int).toNat 0 = s.getD i 0 := rfl
        obtain ⟨x1, x2, x3, x4⟩ := nib (s.getD i 0)
        have hc256 := (s.getD i 0).toNat_lt
        have x5 : (((s.getD i 0).toNat : Int)).fdiv (2 ^ min (4 : Int).toNat IntKind.u8.bits) < ((hexs.length : Nat) : Int) := by
          have : hexs.length = 16 := rfl
          omega
        have x6 : IntKind.u8.wrap ((BitVec.ofInt IntKind.u8.bits ((s.getD i 0).toNat : Int) &&& BitVec.ofInt IntKind.u8.bits 15).toNat : Int) < ((hexs.length : Nat) : Int) := by
          have : hexs.length = 16 := rfl
          omega
        have hw' : quoteB (s.getD i 0) = [92, 120, hexs.getD ((((s.getD i 0).toNat : Int)).fdiv (2 ^ min (4 : Int).toNat IntKind.u8.bits)).toNat 0, hexs.getD (IntKind.u8.wrap ((BitVec.ofInt IntKind.u8.bits ((s.getD i 0).toNat : Int) &&& BitVec.ofInt IntKind.u8.bits 15).toNat : Int)).toNat 0] := by
          rw [hw, x2, x4]; rfl
        rw [hw'] at hvl next
        rcases Nat.lt_or_ge (s.getD i 0).toNat 32 with hlt | hge
        · have g6 : decide (((s.getD (i : Int).toNat 0).toNat : Int) < 32) = true := decide_eq_true (by rw [h3]; omega)
          conv => whnf
          repeat' (first
              | (refine Bc_t ?_; conv => whnf)
              | (refine Bc_f ?_; conv => whnf)
              | (rw [g1]; conv => whnf)
              | (rw [g2]; conv => whnf)
              | (rw [g3]; conv => whnf)
              | (rw [g4]; conv => whnf)
              | (rw [g5]; conv => whnf)
              | (rw [g6]; conv => whnf)
              | (rw [hr]; conv => whnf)
              | (refine Bc_split (fun hb => ?_) (fun hb => ?_) <;> (rw [hb]; conv => whnf))
              | (refine And.intro (by first
                  | omega
                  | assumption
                  | (simp only [St.set_n, St.new_n] at *; omega)
                  | (simp; done)
                  | (simp; omega)
                  | (intro _; exact trivial)
                  | (intro _; intro _ _; exact trivial)
                  | (intro _; intro j hj; first | rfl | (have hj' : j < 1 := hj
                                                         obtain rfl : j = 0 := by omega
                                                         exact ⟨rfl, rfl⟩))
                  | (intro j hj; obtain rfl : j = 0 := by omega
                     first | exact ⟨rfl, rfl⟩ | exact .inl ⟨rfl, rfl⟩ | exact .inr (by omega) | exact ⟨by assumption, by assumption⟩ | assumption | trivial)
                  | exact .inr (by assumption)
                  | (intro j hj; exact .inr (by simp only [St.set_n, St.new_n] at *; omega))
                  | (intro e he; rcases List.mem_singleton.1 he with rfl; exact ⟨rfl, rfl⟩)
                  | (rw [St.set_ne _ _ (by first | assumption | omega | (simp only [St.set_n, St.new_n] at *; omega))]; assumption)
                  | (rw [St.set_ne _ _ (by first | assumption | omega | (simp only [St.set_n, St.new_n] at *; omega)), St.set_ne _ _ (by first | assumption | omega | (simp only [St.set_n, St.new_n] at *; omega))]; assumption)
                  | (simp only [decide_eq_true_eq, decide_eq_false_iff_not, Bool.not_eq_true, beq_iff_eq, beq_eq_false_iff_ne, ne_eq, ge_iff_le, gt_iff_lt] at *; omega)) ?_; conv => whnf)
              | (rw [St.set_same]; conv => whnf)
              | (rw [St.new_same]; conv => whnf)
              | (rw [St.set_ne _ _ (by first | assumption | omega | (simp only [St.set_n, St.new_n] at *; omega))]; conv => whnf)
              | (rw [St.new_ne _ _ (by first | assumption | omega | (simp only [St.set_n, St.new_n] at *; omega))]; conv => whnf))
          refine Exists.intro (fun _ _ => False) ?_
          conv => whnf
          repeat' (first
              | (refine Bc_t ?_; conv => whnf)
              | (refine Bc_f ?_; conv => whnf)
              | (rw [g1]; conv => whnf)
              | (rw [g2]; conv => whnf)
              | (rw [g3]; conv => whnf)
              | (rw [g4]; conv => whnf)
              | (rw [g5]; conv => whnf)
              | (rw [g6]; conv => whnf)
              | (rw [hr]; conv => whnf)
              | (refine Bc_split (fun hb => ?_) (fun hb => ?_) <;> (rw [hb]; conv => whnf))
              | (refine And.intro (by first
                  | omega
                  | assumption
                  | (simp only [St.set_n, St.new_n] at *; omega)
                  | (simp; done)
                  | (simp; omega)
                  | (intro _; exact trivial)
                  | (intro _; intro _ _; exact trivial)
                  | (intro _; intro j hj; first | rfl | (have hj' : j < 1 := hj
                                                         obtain rfl : j = 0 := by omega
                                                         exact ⟨rfl, rfl⟩))
                  | (intro j hj; obtain rfl : j = 0 := by omega
                     first | exact ⟨rfl, rfl⟩ | exact .inl ⟨rfl, rfl⟩ | exact .inr (by omega) | exact ⟨by assumption, by assumption⟩ | assumption | trivial)
                  | exact .inr (by assumption)
                  | (intro j hj; exact .inr (by simp only [St.set_n, St.new_n] at *; omega))
                  | (intro e he; rcases List.mem_singleton.1 he with rfl; exact ⟨rfl, rfl⟩)
                  | (rw [St.set_ne _ _ (by first | assumption | omega | (simp only [St.set_n, St.new_n] at *; omega))]; assumption)
                  | (rw [St.set_ne _ _ (by first | assumption | omega | (simp only [St.set_n, St.new_n] at *; omega)), St.set_ne _ _ (by first | assumption | omega | (simp only [St.set_n, St.new_n] at *; omega))]; assumption)
                  | (simp only [decide_eq_true_eq, decide_eq_false_iff_not, Bool.not_eq_true, beq_iff_eq, beq_eq_false_iff_ne, ne_eq, ge_iff_le, gt_iff_lt] at *; omega)) ?_; conv => whnf)
              | (rw [St.set_same]; conv => whnf)
              | (rw [St.new_same]; conv => whnf)
              | (rw [St.set_ne _ _ (by first | assumption | omega | (simp only [St.set_n, St.new_n] at *; omega))]; conv => whnf)
              | (rw [St.new_ne _ _ (by first | assumption | omega | (simp only [St.set_n, St.new_n] at *; omega))]; conv => whnf))
          refine app_step (w := [92, 120, hexs.getD ((((s.getD i 0).toNat : Int)).fdiv (2 ^ min (4 : Int).toNat IntKind.u8.bits)).toNat 0, hexs.getD (IntKind.u8.wrap ((BitVec.ofInt IntKind.u8.bits ((s.getD i 0).toNat : Int) &&& BitVec.ofInt IntKind.u8.bits 15).toNat : Int)).toNat 0]) (fun _ h => ⟨h, fun q => q⟩) hb0 hvl h2 (fun b' σ' hb' hn' => ?_)
          conv => whnf
          repeat' (first
              | (refine Bc_t ?_; conv => whnf)
              | (refine Bc_f ?_; conv => whnf)
              | (rw [g1]; conv => whnf)
              | (rw [g2]; conv => whnf)
              | (rw [g3]; conv => whnf)
              | (rw [g4]; conv => whnf)
              | (rw [g5]; conv => whnf)
              | (rw [g6]; conv => whnf)
              | (rw [hr]; conv => whnf)
              | (refine Bc_split (fun hb => ?_) (fun hb => ?_) <;> (rw [hb]; conv => whnf))
              | (refine And.intro (by first
                  | omega
                  | assumption
                  | (simp only [St.set_n, St.new_n] at *; omega)
                  | (simp; done)
                  | (simp; omega)
                  | (intro _; exact trivial)
                  | (intro _; intro _ _; exact trivial)
                  | (intro _; intro j hj; first | rfl | (have hj' : j < 1 := hj
                                                         obtain rfl : j = 0 := by omega
                                                         exact ⟨rfl, rfl⟩))
                  | (intro j hj; obtain rfl : j = 0 := by omega
                     first | exact ⟨rfl, rfl⟩ | exact .inl ⟨rfl, rfl⟩ | exact .inr (by omega) | exact ⟨by assumption, by assumption⟩ | assumption | trivial)
                  | exact .inr (by assumption)
                  | (intro j hj; exact .inr (by simp only [St.set_n, St.new_n] at *; omega))
                  | (intro e he; rcases List.mem_singleton.1 he with rfl; exact ⟨rfl, rfl⟩)
                  | (rw [St.set_ne _ _ (by first | assumption | omega | (simp only [St.set_n, St.new_n] at *; omega))]; assumption)
                  | (rw [St.set_ne _ _ (by first | assumption | omega | (simp only [St.set_n, St.new_n] at *; omega)), St.set_ne _ _ (by first | assumption | omega | (simp only [St.set_n, St.new_n] at *; omega))]; assumption)
                  | (simp only [decide_eq_true_eq, decide_eq_false_iff_not, Bool.not_eq_true, beq_iff_eq, beq_eq_false_iff_ne, ne_eq, ge_iff_le, gt_iff_lt] at *; omega)) ?_; conv => whnf)
              | (rw [St.set_same]; conv => whnf)
              | (rw [St.new_same]; conv => whnf)
              | (rw [St.set_ne _ _ (by first | assumption | omega | (simp only [St.set_n, St.new_n] at *; omega))]; conv => whnf)
              | (rw [St.new_ne _ _ (by first | assumption | omega | (simp only [St.set_n, St.new_n] at *; omega))]; conv => whnf))
          exact next b' σ' _ hb' hn' ⟨rfl, rfl, congrArg (fun z => some (A.int .i64 z)) hinc, rfl, trivial⟩
        · have g6 : decide (((s.getD (i : Int).toNat 0).toNat : Int) < 32) = false := decide_eq_false (by rw [h3]; omega)
          have hr : decide (((s.getD (i : Int).toNat 0).toNat : Int) > 126) = true := decide_eq_true (by rw [h3]; omega)
          conv => whnf
          repeat' (first
              | (refine Bc_t ?_; conv => whnf)
              | (refine Bc_f ?_; conv => whnf)
              | (rw [g1]; conv => whnf)
              | (rw [g2]; conv => whnf)
              | (rw [g3]; conv => whnf)
              | (rw [g4]; conv => whnf)
              | (rw [g5]; conv => whnf)
              | (rw [g6]; conv => whnf)
              | (rw [hr]; conv => whnf)
              | (refine Bc_split (fun hb => ?_) (fun hb => ?_) <;> (rw [hb]; conv => whnf))
              | (refine And.intro (by first
                  | omega
                  | assumption
                  | (simp only [St.set_n, St.new_n] at *; omega)
                  | (simp; done)
                  | (simp; omega)
                  | (intro _; exact trivial)
                  | (intro _; intro _ _; exact trivial)
                  | (intro _; intro j hj; first | rfl | (have hj' : j < 1 := hj
                                                         obtain rfl : j = 0 := by omega
                                                         exact ⟨rfl, rfl⟩))
                  | (intro j hj; obtain rfl : j = 0 := by omega
                     first | exact ⟨rfl, rfl⟩ | exact .inl ⟨rfl, rfl⟩ | exact .inr (by omega) | exact ⟨by assumption, by assumption⟩ | assumption | trivial)
                  | exact .inr (by assumption)
                  | (intro j hj; exact .inr (by simp only [St.set_n, St.new_n] at *; omega))
                  | (intro e he; rcases List.mem_singleton.1 he with rfl; exact ⟨rfl, rfl⟩)
                  | (rw [St.set_ne _ _ (by first | assumption | omega | (simp only [St.set_n, St.new_n] at *; omega))]; assumption)
                  | (rw [St.set_ne _ _ (by first | assumption | omega | (simp only [St.set_n, St.new_n] at *; omega)), St.set_ne _ _ (by first | assumption | omega | (simp only [St.set_n, St.new_n] at *; omega))]; assumption)
                  | (simp only [decide_eq_true_eq, decide_eq_false_iff_not, Bool.not_eq_true, beq_iff_eq, beq_eq_false_iff_ne, ne_eq, ge_iff_le, gt_iff_lt] at *; omega)) ?_; conv => whnf)
              | (rw [St.set_same]; conv => whnf)
              | (rw [St.new_same]; conv => whnf)
              | (rw [St.set_ne _ _ (by first | assumption | omega | (simp only [St.set_n, St.new_n] at *; omega))]; conv => whnf)
              | (rw [St.new_ne _ _ (by first | assumption | omega | (simp only [St.set_n, St.new_n] at *; omega))]; conv => whnf))
          refine Exists.intro (fun _ _ => False) ?_
          conv => whnf
          repeat' (first
              | (refine Bc_t ?_; conv => whnf)
              | (refine Bc_f ?_; conv => whnf)
              | (rw [g1]; conv => whnf)
              | (rw [g2]; conv => whnf)
              | (rw [g3]; conv => whnf)
              | (rw [g4]; conv => whnf)
              | (rw [g5]; conv => whnf)
              | (rw [g6]; conv => whnf)
              | (rw [hr]; conv => whnf)
              | (refine Bc_split (fun hb => ?_) (fun hb => ?_) <;> (rw [hb]; conv => whnf))
              | (refine And.intro (by first
                  | omega
                  | assumption
                  | (simp only [St.set_n, St.new_n] at *; omega)
                  | (simp; done)
                  | (simp; omega)
                  | (intro _; exact trivial)
                  | (intro _; intro _ _; exact trivial)
                  | (intro _; intro j hj; first | rfl | (have hj' : j < 1 := hj
                                                         obtain rfl : j = 0 := by omega
                                                         exact ⟨rfl, rfl⟩))
                  | (intro j hj; obtain rfl : j = 0 := by omega
                     first | exact ⟨rfl, rfl⟩ | exact .inl ⟨rfl, rfl⟩ | exact .inr (by omega) | exact ⟨by assumption, by assumption⟩ | assumption | trivial)
                  | exact .inr (by assumption)
                  | (intro j hj; exact .inr (by simp only [St.set_n, St.new_n] at *; omega))
                  | (intro e he; rcases List.mem_singleton.1 he with rfl; exact ⟨rfl, rfl⟩)
                  | (rw [St.set_ne _ _ (by first | assumption | omega | (simp only [St.set_n, St.new_n] at *; omega))]; assumption)
                  | (rw [St.set_ne _ _ (by first | assumption | omega | (simp only [St.set_n, St.new_n] at *; omega)), St.set_ne _ _ (by first | assumption | omega | (simp only [St.set_n, St.new_n] at *; omega))]; assumption)
                  | (simp only [decide_eq_true_eq, decide_eq_false_iff_not, Bool.not_eq_true, beq_iff_eq, beq_eq_false_iff_ne, ne_eq, ge_iff_le, gt_iff_lt] at *; omega)) ?_; conv => whnf)
              | (rw [St.set_same]; conv => whnf)
              | (rw [St.new_same]; conv => whnf)
              | (rw [St.set_ne _ _ (by first | assumption | omega | (simp only [St.set_n, St.new_n] at *; omega))]; conv => whnf)
              | (rw [St.new_ne _ _ (by first | assumption | omega | (simp only [St.set_n, St.new_n] at *; omega))]; conv => whnf))
          refine app_step (w := [92, 120, hexs.getD ((((s.getD i 0).toNat : Int)).fdiv (2 ^ min (4 : Int).toNat IntKind.u8.bits)).toNat 0, hexs.getD (IntKind.u8.wrap ((BitVec.ofInt IntKind.u8.bits ((s.getD i 0).toNat : Int) &&& BitVec.ofInt IntKind.u8.bits 15).toNat : Int)).toNat 0]) (fun _ h => ⟨h, fun q => q⟩) hb0 hvl h2 (fun b' σ' hb' hn' => ?_)
          conv => whnf
          repeat' (first
              | (refine Bc_t ?_; conv => whnf)
              | (refine Bc_f ?_; conv => whnf)
              | (rw [g1]; conv => whnf)
              | (rw [g2]; conv => whnf)
              | (rw [g3]; conv => whnf)
              | (rw [g4]; conv => whnf)
              | (rw [g5]; conv => whnf)
              | (rw [g6]; conv => whnf)
              | (rw [hr]; conv => whnf)
              | (refine Bc_split (fun hb => ?_) (fun hb => ?_) <;> (rw [hb]; conv => whnf))
              | (refine And.intro (by first
                  | omega
                  | assumption
                  | (simp only [St.set_n, St.new_n] at *; omega)
                  | (simp; done)
                  | (simp; omega)
                  | (intro _; exact trivial)
                  | (intro _; intro _ _; exact trivial)
                  | (intro _; intro j hj; first | rfl | (have hj' : j < 1 := hj
                                                         obtain rfl : j = 0 := by omega
                                                         exact ⟨rfl, rfl⟩))
                  | (intro j hj; obtain rfl : j = 0 := by omega
                     first | exact ⟨rfl, rfl⟩ | exact .inl ⟨rfl, rfl⟩ | exact .inr (by omega) | exact ⟨by assumption, by assumption⟩ | assumption | trivial)
                  | exact .inr (by assumption)
                  | (intro j hj; exact .inr (by simp only [St.set_n, St.new_n] at *; omega))
                  | (intro e he; rcases List.mem_singleton.1 he with rfl; exact ⟨rfl, rfl⟩)
                  | (rw [St.set_ne _ _ (by first | assumption | omega | (simp only [St.set_n, St.new_n] at *; omega))]; assumption)
                  | (rw [St.set_ne _ _ (by first | assumption | omega | (simp only [St.set_n, St.new_n] at *; omega)), St.set_ne _ _ (by first | assumption | omega | (simp only [St.set_n, St.new_n] at *; omega))]; assumption)
                  | (simp only [decide_eq_true_eq, decide_eq_false_iff_not, Bool.not_eq_true, beq_iff_eq, beq_eq_false_iff_ne, ne_eq, ge_iff_le, gt_iff_lt] at *; omega)) ?_; conv => whnf)
              | (rw [St.set_same]; conv => whnf)
              | (rw [St.new_same]; conv => whnf)
              | (rw [St.set_ne _ _ (by first | assumption | omega | (simp only [St.set_n, St.new_n] at *; omega))]; conv => whnf)
              | (rw [St.new_ne _ _ (by first | assumption | omega | (simp only [St.set_n, St.new_n] at *; omega))]; conv => whnf))
          exact next b' σ' _ hb' hn' ⟨rfl, rfl, congrArg (fun z => some (A.int .i64 z)) hinc, rfl, trivial⟩
  · obtain rfl : i = s.length := by omega
    have g1 : decide ((s.length : Int) < s.length) = false := by simp
    rw [List.take_length] at hbuf h3
    obtain ⟨o, rfl⟩ : ∃ o, b = .sl o 1 (bs (34 :: s.flatMap quoteB)) := by rcases hbuf with rfl | ⟨t, _, _, _, rfl⟩ <;> exact ⟨_, rfl⟩
    conv => whnf
    repeat' (first
        | (refine Bc_t ?_; conv => whnf)
        | (refine Bc_f ?_; conv => whnf)
        | (rw [g1]; conv => whnf)
        | (rw [g2]; conv => whnf)
        | (rw [g3]; conv => whnf)
        | (rw [g4]; conv => whnf)
        | (rw [g5]; conv => whnf)
        | (rw [g6]; conv => whnf)
        | (rw [hr]; conv => whnf)
        | (refine Bc_split (fun hb => ?_) (fun hb => ?_) <;> (rw [hb]; conv => whnf))
        | (refine And.intro (by first
            | omega
            | assumption
            | (simp only [St.set_n, St.new_n] at *; omega)
            | (simp; done)
            | (simp; omega)
            | (intro _; exact trivial)
            | (intro _; intro _ _; exact trivial)
            | (intro _; intro j hj; first | rfl | (have hj' : j < 1 := hj
                                                   obtain rfl : j = 0 := by omega
                                                   exact ⟨rfl, rfl⟩))
            | (intro j hj; obtain rfl : j = 0 := by omega
               first | exact ⟨rfl, rfl⟩ | exact .inl ⟨rfl, rfl⟩ | exact .inr (by omega) | exact ⟨by assumption, by assumption⟩ | assumption | trivial)
            | exact .inr (by assumption)
            | (intro j hj; exact .inr (by simp only [St.set_n, St.new_n] at *; omega))
            | (intro e he; rcases List.mem_singleton.1 he with rfl; exact ⟨rfl, rfl⟩)
            | (rw [St.set_ne _ _ (by first | assumption | omega | (simp only [St.set_n, St.new_n] at *; omega))]; assumption)
            | (rw [St.set_ne _ _ (by first | assumption | omega | (simp only [St.set_n, St.new_n] at *; omega)), St.set_ne _ _ (by first | assumption | omega | (simp only [St.set_n, St.new_n] at *; omega))]; assumption)
            | (simp only [decide_eq_true_eq, decide_eq_false_iff_not, Bool.not_eq_true, beq_iff_eq, beq_eq_false_iff_ne, ne_eq, ge_iff_le, gt_iff_lt] at *; omega)) ?_; conv => whnf)
        | (rw [St.set_same]; conv => whnf)
        | (rw [St.new_same]; conv => whnf)
        | (rw [St.set_ne _ _ (by first | assumption | omega | (simp only [St.set_n, St.new_n] at *; omega))]; conv => whnf)
        | (rw [St.new_ne _ _ (by first | assumption | omega | (simp only [St.set_n, St.new_n] at *; omega))]; conv => whnf))
    refine app_step (w := [34]) (fun _ h => h) hbuf (by simp only [List.length_cons, List.length_nil]; omega) h2 (fun b' σ' hb' hn' => ?_)
    obtain ⟨o', rfl⟩ : ∃ o, b' = .sl o 1 (bs ((34 :: s.flatMap quoteB) ++ [34])) := by rcases hb' with rfl | ⟨t, _, _, _, rfl⟩ <;> exact ⟨_, rfl⟩
    conv => whnf
    refine ⟨_, rfl, ?_⟩
    conv => whnf
    exact Fin.of rfl
end
end Go.Proofs.YtjeccchbeflddaaDoor.Ga
