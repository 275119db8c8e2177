/- The lexer's reader: forms behind a backslash, texts. -/
import Derived.Test.YtjeccchbeflddaaDoorLa3
set_option linter.unusedVariables false
set_option linter.unusedSimpArgs false
namespace Go.Proofs.YtjeccchbeflddaaDoor.Ga
open Lx

def c_form : SFun := ⟨72, (.seq (.reg [⟨(some 4), (.mov (.const (.int .u8 0))), none⟩]) (.seq (.dreg [(0, ⟨(some 8), (.mov (.tmp 0)), none⟩), (0, ⟨(some 9), (.nilCheck (.tmp 8)), none⟩), (0, ⟨(some 10), (.fieldAddr 0 (.tmp 9)), none⟩), (0, ⟨(some 11), (.load false 1 (.tmp 10)), none⟩), (0, ⟨(some 12), (.mov (.tmp 0)), none⟩), (0, ⟨(some 13), (.nilCheck (.tmp 12)), none⟩), (0, ⟨(some 14), (.fieldAddr 1 (.tmp 13)), none⟩), (0, ⟨(some 15), (.load false 1 (.tmp 14)), none⟩), (0, ⟨(some 16), (.sliceStr (.tmp 11) (some (.tmp 15)) none), none⟩), (2, ⟨(some 5), (.mov (.tmp 16)), none⟩)]) (.seq (.seq (.reg [⟨(some 17), (.mov (.tmp 5)), none⟩, ⟨(some 18), (.bin .eql .none (.tmp 17) (.const (.str []))), none⟩]) (.cond (.tmp 18) (.reg [⟨(some 19), (.mov (.tmp 1)), none⟩, ⟨(some 20), (.build [(.int .i64 0), (.int .i64 0)] [(0, (1, (.const (.int .i64 20)))), (1, (1, (.tmp 19)))]), none⟩, ⟨(some 21), (.mkIface 45 (.tmp 20)), none⟩, ⟨none, (.panic (.tmp 21)), none⟩]) .skip)) (.seq (.reg [⟨(some 22), (.mov (.tmp 0)), none⟩, ⟨(some 23), (.nilCheck (.tmp 22)), none⟩, ⟨(some 24), (.fieldAddr 1 (.tmp 23)), none⟩, ⟨(some 25), (.load false 1 (.tmp 24)), none⟩, ⟨(some 26), (.bin .add .none (.tmp 25) (.const (.int .i64 1))), none⟩, ⟨(some 27), (.nilCheck (.tmp 22)), none⟩, ⟨(some 28), (.fieldAddr 1 (.tmp 27)), none⟩, ⟨none, (.store 1 (.tmp 28) (.tmp 26)), none⟩]) (.seq (.seq (.reg [⟨(some 29), (.mov (.tmp 5)), none⟩, ⟨(some 30), (.idxStr (.tmp 29) (.const (.int .i64 0))), none⟩]) (.block 0 (.seq (.seq (.reg [⟨(some 32), (.bin .eql .none (.tmp 30) (.const (.int .u8 34))), none⟩, ⟨(some 31), (.mov (.tmp 32)), none⟩]) (.cond (.tmp 31) .skip (.reg [⟨(some 33), (.bin .eql .none (.tmp 30) (.const (.int .u8 92))), none⟩, ⟨(some 31), (.mov (.tmp 33)), none⟩]))) (.cond (.tmp 31) (.seq (.reg [⟨(some 34), (.mov (.tmp 5)), none⟩, ⟨(some 35), (.idxStr (.tmp 34) (.const (.int .i64 0))), none⟩, ⟨(some 4), (.mov (.tmp 35)), none⟩]) .ret) (.seq (.reg [⟨(some 37), (.bin .eql .none (.tmp 30) (.const (.int .u8 110))), none⟩, ⟨(some 36), (.mov (.tmp 37)), none⟩]) (.cond (.tmp 36) (.seq (.reg [⟨(some 4), (.mov (.const (.int .u8 10))), none⟩]) .ret) (.seq (.reg [⟨(some 39), (.bin .eql .none (.tmp 30) (.const (.int .u8 116))), none⟩, ⟨(some 38), (.mov (.tmp 39)), none⟩]) (.cond (.tmp 38) (.seq (.reg [⟨(some 4), (.mov (.const (.int .u8 9))), none⟩]) .ret) (.seq (.reg [⟨(some 41), (.bin .eql .none (.tmp 30) (.const (.int .u8 120))), none⟩, ⟨(some 40), (.mov (.tmp 41)), none⟩]) (.cond (.tmp 40) (.seq (.reg [⟨(some 42), (.mov (.tmp 5)), none⟩, ⟨(some 43), (.len .str (.tmp 42)), none⟩, ⟨(some 44), (.bin .gtr .none (.tmp 43) (.const (.int .i64 2))), none⟩]) (.cond (.tmp 44) (.seq (.dreg [(0, ⟨(some 45), (.mov (.tmp 5)), none⟩), (0, ⟨(some 46), (.idxStr (.tmp 45) (.const (.int .i64 1))), none⟩), (0, ⟨(some 48), (.mov (.tmp 5)), none⟩), (0, ⟨(some 49), (.idxStr (.tmp 48) (.const (.int .i64 2))), none⟩), (1, ⟨(some 47), (.call 33 [(.const (.str [48, 49, 50, 51, 52, 53, 54, 55, 56, 57, 97, 98, 99, 100, 101, 102])), (.tmp 46)]), none⟩), (1, ⟨(some 50), (.call 33 [(.const (.str [48, 49, 50, 51, 52, 53, 54, 55, 56, 57, 97, 98, 99, 100, 101, 102])), (.tmp 49)]), none⟩), (0, ⟨(some 6), (.mov (.tmp 47)), none⟩), (2, ⟨(some 7), (.mov (.tmp 50)), none⟩)]) (.seq (.reg [⟨(some 51), (.mov (.tmp 6)), none⟩, ⟨(some 52), (.bin .geq .none (.tmp 51) (.const (.int .i64 0))), none⟩, ⟨(some 53), (.mov (.tmp 52)), none⟩, ⟨(some 54), (.mov (.tmp 7)), (some (53, true))⟩, ⟨(some 55), (.bin .geq .none (.tmp 54) (.const (.int .i64 0))), (some (53, true))⟩, ⟨(some 56), (.pick (.tmp 53) (.tmp 55) (.const (.bool false))), none⟩]) (.cond (.tmp 56) (.seq (.reg [⟨(some 57), (.mov (.tmp 0)), none⟩, ⟨(some 58), (.nilCheck (.tmp 57)), none⟩, ⟨(some 59), (.fieldAddr 1 (.tmp 58)), none⟩, ⟨(some 60), (.load false 1 (.tmp 59)), none⟩, ⟨(some 61), (.bin .add .none (.tmp 60) (.const (.int .i64 2))), none⟩, ⟨(some 62), (.nilCheck (.tmp 57)), none⟩, ⟨(some 63), (.fieldAddr 1 (.tmp 62)), none⟩, ⟨none, (.store 1 (.tmp 63) (.tmp 61)), none⟩]) (.seq (.reg [⟨(some 64), (.mov (.tmp 6)), none⟩, ⟨(some 65), (.bin .mul .none (.const (.int .i64 16)) (.tmp 64)), none⟩, ⟨(some 66), (.mov (.tmp 7)), none⟩, ⟨(some 67), (.bin .add .none (.tmp 65) (.tmp 66)), none⟩, ⟨(some 68), (.toInt .u8 (.tmp 67)), none⟩, ⟨(some 4), (.mov (.tmp 68)), none⟩]) .ret)) .skip))) .skip)) .skip)))))))))) (.reg [⟨(some 69), (.mov (.tmp 1)), none⟩, ⟨(some 70), (.build [(.int .i64 0), (.int .i64 0)] [(0, (1, (.const (.int .i64 20)))), (1, (1, (.tmp 69)))]), none⟩, ⟨(some 71), (.mkIface 45 (.tmp 70)), none⟩, ⟨none, (.panic (.tmp 71)), none⟩])))))), [(.tmp 4)]⟩
theorem c_form_ok : cFun Tryd.prog Tryd.f49 = some c_form := by kernel_rfl
def c_text : SFun := ⟨63, (.seq (.reg [⟨(some 2), (.mov (.const (.str []))), none⟩]) (.seq (.reg [⟨(some 6), (.mov (.tmp 0)), none⟩, ⟨(some 7), (.nilCheck (.tmp 6)), none⟩, ⟨(some 8), (.fieldAddr 1 (.tmp 7)), none⟩, ⟨(some 9), (.load false 1 (.tmp 8)), none⟩, ⟨(some 3), (.mov (.tmp 9)), none⟩]) (.seq (.reg [⟨(some 10), (.mov (.tmp 0)), none⟩, ⟨(some 11), (.nilCheck (.tmp 10)), none⟩, ⟨(some 12), (.fieldAddr 1 (.tmp 11)), none⟩, ⟨(some 13), (.load false 1 (.tmp 12)), none⟩, ⟨(some 14), (.bin .add .none (.tmp 13) (.const (.int .i64 1))), none⟩, ⟨(some 15), (.nilCheck (.tmp 10)), none⟩, ⟨(some 16), (.fieldAddr 1 (.tmp 15)), none⟩, ⟨none, (.store 1 (.tmp 16) (.tmp 14)), none⟩]) (.seq (.reg [⟨(some 4), (.mov (.const .nils)), none⟩]) (.block 0 (.loop (.block 1 (.seq (.seq (.dreg [(0, ⟨(some 17), (.mov (.tmp 0)), none⟩), (0, ⟨(some 18), (.nilCheck (.tmp 17)), none⟩), (0, ⟨(some 19), (.fieldAddr 1 (.tmp 18)), none⟩), (0, ⟨(some 20), (.load false 1 (.tmp 19)), none⟩), (0, ⟨(some 21), (.mov (.tmp 0)), none⟩), (0, ⟨(some 22), (.nilCheck (.tmp 21)), none⟩), (0, ⟨(some 23), (.fieldAddr 0 (.tmp 22)), none⟩), (0, ⟨(some 24), (.load false 1 (.tmp 23)), none⟩), (0, ⟨(some 25), (.len .str (.tmp 24)), none⟩), (0, ⟨(some 26), (.bin .eql .none (.tmp 20) (.tmp 25)), none⟩)]) (.cond (.tmp 26) (.reg [⟨(some 27), (.mov (.tmp 3)), none⟩, ⟨(some 28), (.build [(.int .i64 0), (.int .i64 0)] [(0, (1, (.const (.int .i64 20)))), (1, (1, (.tmp 27)))]), none⟩, ⟨(some 29), (.mkIface 45 (.tmp 28)), none⟩, ⟨none, (.panic (.tmp 29)), none⟩]) .skip)) (.seq (.dreg [(0, ⟨(some 30), (.mov (.tmp 0)), none⟩), (0, ⟨(some 31), (.nilCheck (.tmp 30)), none⟩), (0, ⟨(some 32), (.fieldAddr 0 (.tmp 31)), none⟩), (0, ⟨(some 33), (.load false 1 (.tmp 32)), none⟩), (0, ⟨(some 34), (.mov (.tmp 0)), none⟩), (0, ⟨(some 35), (.nilCheck (.tmp 34)), none⟩), (0, ⟨(some 36), (.fieldAddr 1 (.tmp 35)), none⟩), (0, ⟨(some 37), (.load false 1 (.tmp 36)), none⟩), (0, ⟨(some 38), (.idxStr (.tmp 33) (.tmp 37)), none⟩), (2, ⟨(some 5), (.mov (.tmp 38)), none⟩)]) (.seq (.reg [⟨(some 39), (.mov (.tmp 0)), none⟩, ⟨(some 40), (.nilCheck (.tmp 39)), none⟩, ⟨(some 41), (.fieldAddr 1 (.tmp 40)), none⟩, ⟨(some 42), (.load false 1 (.tmp 41)), none⟩, ⟨(some 43), (.bin .add .none (.tmp 42) (.const (.int .i64 1))), none⟩, ⟨(some 44), (.nilCheck (.tmp 39)), none⟩, ⟨(some 45), (.fieldAddr 1 (.tmp 44)), none⟩, ⟨none, (.store 1 (.tmp 45) (.tmp 43)), none⟩]) (.seq (.reg [⟨(some 46), (.mov (.tmp 5)), none⟩]) (.block 2 (.seq (.reg [⟨(some 52), (.bin .eql .none (.tmp 46) (.const (.int .u8 34))), none⟩, ⟨(some 51), (.mov (.tmp 52)), none⟩]) (.cond (.tmp 51) (.seq (.reg [⟨(some 53), (.mov (.tmp 4)), none⟩, ⟨(some 54), (.toStr (.tmp 53)), none⟩, ⟨(some 2), (.mov (.tmp 54)), none⟩]) .ret) (.seq (.reg [⟨(some 56), (.bin .eql .none (.tmp 46) (.const (.int .u8 92))), none⟩, ⟨(some 55), (.mov (.tmp 56)), none⟩]) (.cond (.tmp 55) (.reg [⟨(some 57), (.mov (.tmp 4)), none⟩, ⟨(some 58), (.mov (.tmp 0)), none⟩, ⟨(some 59), (.mov (.tmp 3)), none⟩, ⟨(some 60), (.call 49 [(.tmp 58), (.tmp 59)]), none⟩, ⟨(some 61), (.buildSl 1 (.int .u8 0) 1 [(0, (.tmp 60))]), none⟩, ⟨(some 62), (.append false 1 1 (.tmp 57) (.tmp 61)), none⟩, ⟨(some 4), (.mov (.tmp 62)), none⟩]) (.reg [⟨(some 47), (.mov (.tmp 4)), none⟩, ⟨(some 48), (.mov (.tmp 5)), none⟩, ⟨(some 49), (.buildSl 1 (.int .u8 0) 1 [(0, (.tmp 48))]), none⟩, ⟨(some 50), (.append false 1 1 (.tmp 47) (.tmp 49)), none⟩, ⟨(some 4), (.mov (.tmp 50)), none⟩]))))))))))))))))), [(.tmp 2)]⟩
theorem c_text_ok : cFun Tryd.prog Tryd.f41 = some c_text := by kernel_rfl

def hexs : List UInt8 := [48, 49, 50, 51, 52, 53, 54, 55, 56, 57, 97, 98, 99, 100, 101, 102]
theorem hex_all : ∀ n : _root_.Fin 256, Lib.indexByte hexs (UInt8.ofNat n.val) = match hexVal (UInt8.ofNat n.val) with | some k => (k : Int) | none => -1 := by decide +kernel
theorem hex_idx (c : UInt8) : Lib.indexByte hexs c = match hexVal c with | some k => (k : Int) | none => -1 := by
  have := hex_all ⟨c.toNat, c.toNat_lt⟩
  simpa using this
theorem hex_lt {c : UInt8} {k : Nat} (h : hexVal c = some k) : k < 16 := by
  have hc := c.toNat_lt
  unfold hexVal isDigit at h
  split at h
  · rename_i h1; simp at h h1; omega
  · split at h
    · rename_i h1; simp at h h1; omega
    · cases h

theorem wu8 {n : Int} (h0 : 0 ≤ n) (h1 : n < 256) : IntKind.u8.wrap n = n := by
  unfold IntKind.wrap; simp [IntKind.bits, IntKind.signed]; omega

theorem byte_ne (c k : UInt8) (h : c ≠ k) : ((c.toNat : Int) == (k.toNat : Int)) = false := by
  rw [beq_eq_false_iff_ne]
  intro q
  exact h (UInt8.toNat_inj.1 (by omega))

section
attribute [local irreducible] Bc ACallsW ALoop Fin St.set St.new
theorem form_ok (s : List UInt8) (at_ fr : Nat) (out : A) (r : Nat) (σ : St) (hs : s.length ≤ 4096) (hat : at_ ≤ s.length) (hr : σ.obj r = rd s at_ out) :
    ACalls Tryd.prog 49 [.ptr r 0, .int .i64 fr] σ (AtOf r) (fun e σ' => match form (s.drop at_) with
      | some (c, l) => σ' = σ.set r (rd s (s.length - l.length) out) ∧ e = .ret (.int .u8 c.toNat)
      | none => e = .pan (bad 20 fr)) := by
  have hdt : List.drop (at_ : Int).toNat (List.take s.length s) = s.drop at_ := by rw [List.take_length]; rfl
  have hsz : (s.drop at_).length = s.length - at_ := List.length_drop ..
  unfold rd at *
  rcases hrest : s.drop at_ with _ | ⟨c, r1⟩
  · have g1 := hdt.trans hrest
    refine acalls_go mixed Tryd.func49 c_form_ok (Nat.le_of_ble_eq_true rfl) ?_
    conv => whnf
    repeat' (first
        | (refine Bc_t ?_; conv => whnf)
        | (refine Bc_f ?_; conv => whnf)
        | (rw [g1]; conv => whnf)
        | (rw [g2]; conv => whnf)
        | (rw [g3]; conv => whnf)
        | (rw [g4]; conv => whnf)
        | (rw [g5]; conv => whnf)
        | (rw [g6]; conv => whnf)
        | (rw [hr]; conv => whnf)
        | (refine Bc_split (fun hb => ?_) (fun hb => ?_) <;> (rw [hb]; conv => whnf))
        | (refine And.intro (by first
            | omega
            | assumption
            | (simp only [St.set_n, St.new_n] at *; omega)
            | (simp; done)
            | (simp; omega)
            | (intro _; exact trivial)
            | (intro _; intro _ _; exact trivial)
            | (intro _; intro j hj; first | rfl | (have hj' : j < 1 := hj
                                                   obtain rfl : j = 0 := by omega
                                                   exact ⟨rfl, rfl⟩))
            | (intro j hj; obtain rfl : j = 0 := by omega
               first | exact ⟨rfl, rfl⟩ | exact .inl ⟨rfl, rfl⟩ | exact .inr (by omega) | exact ⟨by assumption, by assumption⟩ | assumption | trivial)
            | exact .inr (by assumption)
            | (intro j hj; exact .inr (by simp only [St.set_n, St.new_n] at *; omega))
            | (intro e he; rcases List.mem_singleton.1 he with rfl; exact ⟨rfl, rfl⟩)
            | (rw [St.set_ne _ _ (by first | assumption | omega | (simp only [St.set_n, St.new_n] at *; omega))]; assumption)
            | (rw [St.set_ne _ _ (by first | assumption | omega | (simp only [St.set_n, St.new_n] at *; omega)), St.set_ne _ _ (by first | assumption | omega | (simp only [St.set_n, St.new_n] at *; omega))]; assumption)
            | (simp only [decide_eq_true_eq, decide_eq_false_iff_not, Bool.not_eq_true, beq_iff_eq, beq_eq_false_iff_ne, ne_eq, ge_iff_le, gt_iff_lt] at *; omega)) ?_; conv => whnf)
        | (rw [St.set_same]; conv => whnf)
        | (rw [St.new_same]; conv => whnf)
        | (rw [St.set_ne _ _ (by first | assumption | omega | (simp only [St.set_n, St.new_n] at *; omega))]; conv => whnf)
        | (rw [St.new_ne _ _ (by first | assumption | omega | (simp only [St.set_n, St.new_n] at *; omega))]; conv => whnf))
    exact Fin.of rfl
  have g1 := hdt.trans hrest
  have hl1 : s.length - at_ = r1.length + 1 := by rw [← hsz, hrest]; rfl
  have fin : ∀ (v : UInt8), σ.set r (AO.cells (setL [A.str s, A.int IntKind.i64 at_, out] (0 + 1) (A.int IntKind.i64 (IntKind.i64.wrap ((at_ : Int) + 1))).cells)) = σ.set r (AO.cells [A.str s, A.int IntKind.i64 ((s.length - r1.length : Nat) : Int), out]) := fun v =>
    congrArg (σ.set r) (rd_eq (by rw [w64 (by omega) (by omega)]; omega))
  by_cases h34 : c = 34
  · subst h34
    refine acalls_go mixed Tryd.func49 c_form_ok (Nat.le_of_ble_eq_true rfl) ?_
    conv => whnf
    repeat' (first
        | (refine Bc_t ?_; conv => whnf)
        | (refine Bc_f ?_; conv => whnf)
        | (rw [g1]; conv => whnf)
        | (rw [g2]; conv => whnf)
        | (rw [g3]; conv => whnf)
        | (rw [g4]; conv => whnf)
        | (rw [g5]; conv => whnf)
        | (rw [g6]; conv => whnf)
        | (rw [hr]; conv => whnf)
        | (refine Bc_split (fun hb => ?_) (fun hb => ?_) <;> (rw [hb]; conv => whnf))
        | (refine And.intro (by first
            | omega
            | assumption
            | (simp only [St.set_n, St.new_n] at *; omega)
            | (simp; done)
            | (simp; omega)
            | (intro _; exact trivial)
            | (intro _; intro _ _; exact trivial)
            | (intro _; intro j hj; first | rfl | (have hj' : j < 1 := hj
                                                   obtain rfl : j = 0 := by omega
                                                   exact ⟨rfl, rfl⟩))
            | (intro j hj; obtain rfl : j = 0 := by omega
               first | exact ⟨rfl, rfl⟩ | exact .inl ⟨rfl, rfl⟩ | exact .inr (by omega) | exact ⟨by assumption, by assumption⟩ | assumption | trivial)
            | exact .inr (by assumption)
            | (intro j hj; exact .inr (by simp only [St.set_n, St.new_n] at *; omega))
            | (intro e he; rcases List.mem_singleton.1 he with rfl; exact ⟨rfl, rfl⟩)
            | (rw [St.set_ne _ _ (by first | assumption | omega | (simp only [St.set_n, St.new_n] at *; omega))]; assumption)
            | (rw [St.set_ne _ _ (by first | assumption | omega | (simp only [St.set_n, St.new_n] at *; omega)), St.set_ne _ _ (by first | assumption | omega | (simp only [St.set_n, St.new_n] at *; omega))]; assumption)
            | (simp only [decide_eq_true_eq, decide_eq_false_iff_not, Bool.not_eq_true, beq_iff_eq, beq_eq_false_iff_ne, ne_eq, ge_iff_le, gt_iff_lt] at *; omega)) ?_; conv => whnf)
        | (rw [St.set_same]; conv => whnf)
        | (rw [St.new_same]; conv => whnf)
        | (rw [St.set_ne _ _ (by first | assumption | omega | (simp only [St.set_n, St.new_n] at *; omega))]; conv => whnf)
        | (rw [St.new_ne _ _ (by first | assumption | omega | (simp only [St.set_n, St.new_n] at *; omega))]; conv => whnf))
    exact Fin.of ⟨fin 34, rfl⟩
  by_cases h92 : c = 92
  · subst h92
    refine acalls_go mixed Tryd.func49 c_form_ok (Nat.le_of_ble_eq_true rfl) ?_
    conv => whnf
    repeat' (first
        | (refine Bc_t ?_; conv => whnf)
        | (refine Bc_f ?_; conv => whnf)
        | (rw [g1]; conv => whnf)
        | (rw [g2]; conv => whnf)
        | (rw [g3]; conv => whnf)
        | (rw [g4]; conv => whnf)
        | (rw [g5]; conv => whnf)
        | (rw [g6]; conv => whnf)
        | (rw [hr]; conv => whnf)
        | (refine Bc_split (fun hb => ?_) (fun hb => ?_) <;> (rw [hb]; conv => whnf))
        | (refine And.intro (by first
            | omega
            | assumption
            | (simp only [St.set_n, St.new_n] at *; omega)
            | (simp; done)
            | (simp; omega)
            | (intro _; exact trivial)
            | (intro _; intro _ _; exact trivial)
            | (intro _; intro j hj; first | rfl | (have hj' : j < 1 := hj
                                                   obtain rfl : j = 0 := by omega
                                                   exact ⟨rfl, rfl⟩))
            | (intro j hj; obtain rfl : j = 0 := by omega
               first | exact ⟨rfl, rfl⟩ | exact .inl ⟨rfl, rfl⟩ | exact .inr (by omega) | exact ⟨by assumption, by assumption⟩ | assumption | trivial)
            | exact .inr (by assumption)
            | (intro j hj; exact .inr (by simp only [St.set_n, St.new_n] at *; omega))
            | (intro e he; rcases List.mem_singleton.1 he with rfl; exact ⟨rfl, rfl⟩)
            | (rw [St.set_ne _ _ (by first | assumption | omega | (simp only [St.set_n, St.new_n] at *; omega))]; assumption)
            | (rw [St.set_ne _ _ (by first | assumption | omega | (simp only [St.set_n, St.new_n] at *; omega)), St.set_ne _ _ (by first | assumption | omega | (simp only [St.set_n, St.new_n] at *; omega))]; assumption)
            | (simp only [decide_eq_true_eq, decide_eq_false_iff_not, Bool.not_eq_true, beq_iff_eq, beq_eq_false_iff_ne, ne_eq, ge_iff_le, gt_iff_lt] at *; omega)) ?_; conv => whnf)
        | (rw [St.set_same]; conv => whnf)
        | (rw [St.new_same]; conv => whnf)
        | (rw [St.set_ne _ _ (by first | assumption | omega | (simp only [St.set_n, St.new_n] at *; omega))]; conv => whnf)
        | (rw [St.new_ne _ _ (by first | assumption | omega | (simp only [St.set_n, St.new_n] at *; omega))]; conv => whnf))
    exact Fin.of ⟨fin 34, rfl⟩
  by_cases h110 : c = 110
  · subst h110
    refine acalls_go mixed Tryd.func49 c_form_ok (Nat.le_of_ble_eq_true rfl) ?_
    conv => whnf
    repeat' (first
        | (refine Bc_t ?_; conv => whnf)
        | (refine Bc_f ?_; conv => whnf)
        | (rw [g1]; conv => whnf)
        | (rw [g2]; conv => whnf)
        | (rw [g3]; conv => whnf)
        | (rw [g4]; conv => whnf)
        | (rw [g5]; conv => whnf)
        | (rw [g6]; conv => whnf)
        | (rw [hr]; conv => whnf)
        | (refine Bc_split (fun hb => ?_) (fun hb => ?_) <;> (rw [hb]; conv => whnf))
        | (refine And.intro (by first
            | omega
            | assumption
            | (simp only [St.set_n, St.new_n] at *; omega)
            | (simp; done)
            | (simp; omega)
            | (intro _; exact trivial)
            | (intro _; intro _ _; exact trivial)
            | (intro _; intro j hj; first | rfl | (have hj' : j < 1 := hj
                                                   obtain rfl : j = 0 := by omega
                                                   exact ⟨rfl, rfl⟩))
            | (intro j hj; obtain rfl : j = 0 := by omega
               first | exact ⟨rfl, rfl⟩ | exact .inl ⟨rfl, rfl⟩ | exact .inr (by omega) | exact ⟨by assumption, by assumption⟩ | assumption | trivial)
            | exact .inr (by assumption)
            | (intro j hj; exact .inr (by simp only [St.set_n, St.new_n] at *; omega))
            | (intro e he; rcases List.mem_singleton.1 he with rfl; exact ⟨rfl, rfl⟩)
            | (rw [St.set_ne _ _ (by first | assumption | omega | (simp only [St.set_n, St.new_n] at *; omega))]; assumption)
            | (rw [St.set_ne _ _ (by first | assumption | omega | (simp only [St.set_n, St.new_n] at *; omega)), St.set_ne _ _ (by first | assumption | omega | (simp only [St.set_n, St.new_n] at *; omega))]; assumption)
            | (simp only [decide_eq_true_eq, decide_eq_false_iff_not, Bool.not_eq_true, beq_iff_eq, beq_eq_false_iff_ne, ne_eq, ge_iff_le, gt_iff_lt] at *; omega)) ?_; conv => whnf)
        | (rw [St.set_same]; conv => whnf)
        | (rw [St.new_same]; conv => whnf)
        | (rw [St.set_ne _ _ (by first | assumption | omega | (simp only [St.set_n, St.new_n] at *; omega))]; conv => whnf)
        | (rw [St.new_ne _ _ (by first | assumption | omega | (simp only [St.set_n, St.new_n] at *; omega))]; conv => whnf))
    exact Fin.of ⟨fin 34, rfl⟩
  by_cases h116 : c = 116
  · subst h116
    refine acalls_go mixed Tryd.func49 c_form_ok (Nat.le_of_ble_eq_true rfl) ?_
    conv => whnf
    repeat' (first
        | (refine Bc_t ?_; conv => whnf)
        | (refine Bc_f ?_; conv => whnf)
        | (rw [g1]; conv => whnf)
        | (rw [g2]; conv => whnf)
        | (rw [g3]; conv => whnf)
        | (rw [g4]; conv => whnf)
        | (rw [g5]; conv => whnf)
        | (rw [g6]; conv => whnf)
        | (rw [hr]; conv => whnf)
        | (refine Bc_split (fun hb => ?_) (fun hb => ?_) <;> (rw [hb]; conv => whnf))
        | (refine And.intro (by first
            | omega
            | assumption
            | (simp only [St.set_n, St.new_n] at *; omega)
            | (simp; done)
            | (simp; omega)
            | (intro _; exact trivial)
            | (intro _; intro _ _; exact trivial)
            | (intro _; intro j hj; first | rfl | (have hj' : j < 1 := hj
                                                   obtain rfl : j = 0 := by omega
                                                   exact ⟨rfl, rfl⟩))
            | (intro j hj; obtain rfl : j = 0 := by omega
               first | exact ⟨rfl, rfl⟩ | exact .inl ⟨rfl, rfl⟩ | exact .inr (by omega) | exact ⟨by assumption, by assumption⟩ | assumption | trivial)
            | exact .inr (by assumption)
            | (intro j hj; exact .inr (by simp only [St.set_n, St.new_n] at *; omega))
            | (intro e he; rcases List.mem_singleton.1 he with rfl; exact ⟨rfl, rfl⟩)
            | (rw [St.set_ne _ _ (by first | assumption | omega | (simp only [St.set_n, St.new_n] at *; omega))]; assumption)
            | (rw [St.set_ne _ _ (by first | assumption | omega | (simp only [St.set_n, St.new_n] at *; omega)), St.set_ne _ _ (by first | assumption | omega | (simp only [St.set_n, St.new_n] at *; omega))]; assumption)
            | (simp only [decide_eq_true_eq, decide_eq_false_iff_not, Bool.not_eq_true, beq_iff_eq, beq_eq_false_iff_ne, ne_eq, ge_iff_le, gt_iff_lt] at *; omega)) ?_; conv => whnf)
        | (rw [St.set_same]; conv => whnf)
        | (rw [St.new_same]; conv => whnf)
        | (rw [St.set_ne _ _ (by first | assumption | omega | (simp only [St.set_n, St.new_n] at *; omega))]; conv => whnf)
        | (rw [St.new_ne _ _ (by first | assumption | omega | (simp only [St.set_n, St.new_n] at *; omega))]; conv => whnf))
    exact Fin.of ⟨fin 34, rfl⟩
  have q34 : (c == 34) = false := beq_eq_false_iff_ne.2 h34
  have q92 : (c == 92) = false := beq_eq_false_iff_ne.2 h92
  have q110 : (c == 110) = false := beq_eq_false_iff_ne.2 h110
  have q116 : (c == 116) = false := beq_eq_false_iff_ne.2 h116
  by_cases h120 : c = 120
  · subst h120
    rcases r1 with _ | ⟨a, _ | ⟨b, r2⟩⟩
    · refine acalls_go mixed Tryd.func49 c_form_ok (Nat.le_of_ble_eq_true rfl) ?_
      conv => whnf
      repeat' (first
          | (refine Bc_t ?_; conv => whnf)
          | (refine Bc_f ?_; conv => whnf)
          | (rw [g1]; conv => whnf)
          | (rw [g2]; conv => whnf)
          | (rw [g3]; conv => whnf)
          | (rw [g4]; conv => whnf)
          | (rw [g5]; conv => whnf)
          | (rw [g6]; conv => whnf)
          | (rw [hr]; conv => whnf)
          | (refine Bc_split (fun hb => ?_) (fun hb => ?_) <;> (rw [hb]; conv => whnf))
          | (refine And.intro (by first
              | omega
              | assumption
              | (simp only [St.set_n, St.new_n] at *; omega)
              | (simp; done)
              | (simp; omega)
              | (intro _; exact trivial)
              | (intro _; intro _ _; exact trivial)
              | (intro _; intro j hj; first | rfl | (have hj' : j < 1 := hj
                                                     obtain rfl : j = 0 := by omega
                                                     exact ⟨rfl, rfl⟩))
              | (intro j hj; obtain rfl : j = 0 := by omega
                 first | exact ⟨rfl, rfl⟩ | exact .inl ⟨rfl, rfl⟩ | exact .inr (by omega) | exact ⟨by assumption, by assumption⟩ | assumption | trivial)
              | exact .inr (by assumption)
              | (intro j hj; exact .inr (by simp only [St.set_n, St.new_n] at *; omega))
              | (intro e he; rcases List.mem_singleton.1 he with rfl; exact ⟨rfl, rfl⟩)
              | (rw [St.set_ne _ _ (by first | assumption | omega | (simp only [St.set_n, St.new_n] at *; omega))]; assumption)
              | (rw [St.set_ne _ _ (by first | assumption | omega | (simp only [St.set_n, St.new_n] at *; omega)), St.set_ne _ _ (by first | assumption | omega | (simp only [St.set_n, St.new_n] at *; omega))]; assumption)
              | (simp only [decide_eq_true_eq, decide_eq_false_iff_not, Bool.not_eq_true, beq_iff_eq, beq_eq_false_iff_ne, ne_eq, ge_iff_le, gt_iff_lt] at *; omega)) ?_; conv => whnf)
          | (rw [St.set_same]; conv => whnf)
          | (rw [St.new_same]; conv => whnf)
          | (rw [St.set_ne _ _ (by first | assumption | omega | (simp only [St.set_n, St.new_n] at *; omega))]; conv => whnf)
          | (rw [St.new_ne _ _ (by first | assumption | omega | (simp only [St.set_n, St.new_n] at *; omega))]; conv => whnf))
      exact Fin.of rfl
    · refine acalls_go mixed Tryd.func49 c_form_ok (Nat.le_of_ble_eq_true rfl) ?_
      conv => whnf
      repeat' (first
          | (refine Bc_t ?_; conv => whnf)
          | (refine Bc_f ?_; conv => whnf)
          | (rw [g1]; conv => whnf)
          | (rw [g2]; conv => whnf)
          | (rw [g3]; conv => whnf)
          | (rw [g4]; conv => whnf)
          | (rw [g5]; conv => whnf)
          | (rw [g6]; conv => whnf)
          | (rw [hr]; conv => whnf)
          | (refine Bc_split (fun hb => ?_) (fun hb => ?_) <;> (rw [hb]; conv => whnf))
          | (refine And.intro (by first
              | omega
              | assumption
              | (simp only [St.set_n, St.new_n] at *; omega)
              | (simp; done)
              | (simp; omega)
              | (intro _; exact trivial)
              | (intro _; intro _ _; exact trivial)
              | (intro _; intro j hj; first | rfl | (have hj' : j < 1 := hj
                                                     obtain rfl : j = 0 := by omega
                                                     exact ⟨rfl, rfl⟩))
              | (intro j hj; obtain rfl : j = 0 := by omega
                 first | exact ⟨rfl, rfl⟩ | exact .inl ⟨rfl, rfl⟩ | exact .inr (by omega) | exact ⟨by assumption, by assumption⟩ | assumption | trivial)
              | exact .inr (by assumption)
              | (intro j hj; exact .inr (by simp only [St.set_n, St.new_n] at *; omega))
              | (intro e he; rcases List.mem_singleton.1 he with rfl; exact ⟨rfl, rfl⟩)
              | (rw [St.set_ne _ _ (by first | assumption | omega | (simp only [St.set_n, St.new_n] at *; omega))]; assumption)
              | (rw [St.set_ne _ _ (by first | assumption | omega | (simp only [St.set_n, St.new_n] at *; omega)), St.set_ne _ _ (by first | assumption | omega | (simp only [St.set_n, St.new_n] at *; omega))]; assumption)
              | (simp only [decide_eq_true_eq, decide_eq_false_iff_not, Bool.not_eq_true, beq_iff_eq, beq_eq_false_iff_ne, ne_eq, ge_iff_le, gt_iff_lt] at *; omega)) ?_; conv => whnf)
          | (rw [St.set_same]; conv => whnf)
          | (rw [St.new_same]; conv => whnf)
          | (rw [St.set_ne _ _ (by first | assumption | omega | (simp only [St.set_n, St.new_n] at *; omega))]; conv => whnf)
          | (rw [St.new_ne _ _ (by first | assumption | omega | (simp only [St.set_n, St.new_n] at *; omega))]; conv => whnf))
      exact Fin.of rfl
    · have hl2 : s.length - at_ = r2.length + 3 := by rw [hl1]; simp
      have g2 : decide (((120 :: a :: b :: r2).length : Int) > 2) = true := by simp; omega
      have hfo : form (120 :: a :: b :: r2) = match hexVal a, hexVal b with | some x, some y => some (UInt8.ofNat (16 * x + y), r2) | _, _ => none := rfl
      refine acalls_go mixed Tryd.func49 c_form_ok (Nat.le_of_ble_eq_true rfl) ?_
      conv => whnf
      repeat' (first
          | (refine Bc_t ?_; conv => whnf)
          | (refine Bc_f ?_; conv => whnf)
          | (rw [g1]; conv => whnf)
          | (rw [g2]; conv => whnf)
          | (rw [g3]; conv => whnf)
          | (rw [g4]; conv => whnf)
          | (rw [g5]; conv => whnf)
          | (rw [g6]; conv => whnf)
          | (rw [hr]; conv => whnf)
          | (refine Bc_split (fun hb => ?_) (fun hb => ?_) <;> (rw [hb]; conv => whnf))
          | (refine And.intro (by first
              | omega
              | assumption
              | (simp only [St.set_n, St.new_n] at *; omega)
              | (simp; done)
              | (simp; omega)
              | (intro _; exact trivial)
              | (intro _; intro _ _; exact trivial)
              | (intro _; intro j hj; first | rfl | (have hj' : j < 1 := hj
                                                     obtain rfl : j = 0 := by omega
                                                     exact ⟨rfl, rfl⟩))
              | (intro j hj; obtain rfl : j = 0 := by omega
                 first | exact ⟨rfl, rfl⟩ | exact .inl ⟨rfl, rfl⟩ | exact .inr (by omega) | exact ⟨by assumption, by assumption⟩ | assumption | trivial)
              | exact .inr (by assumption)
              | (intro j hj; exact .inr (by simp only [St.set_n, St.new_n] at *; omega))
              | (intro e he; rcases List.mem_singleton.1 he with rfl; exact ⟨rfl, rfl⟩)
              | (rw [St.set_ne _ _ (by first | assumption | omega | (simp only [St.set_n, St.new_n] at *; omega))]; assumption)
              | (rw [St.set_ne _ _ (by first | assumption | omega | (simp only [St.set_n, St.new_n] at *; omega)), St.set_ne _ _ (by first | assumption | omega | (simp only [St.set_n, St.new_n] at *; omega))]; assumption)
              | (simp only [decide_eq_true_eq, decide_eq_false_iff_not, Bool.not_eq_true, beq_iff_eq, beq_eq_false_iff_ne, ne_eq, ge_iff_le, gt_iff_lt] at *; omega)) ?_; conv => whnf)
          | (rw [St.set_same]; conv => whnf)
          | (rw [St.new_same]; conv => whnf)
          | (rw [St.set_ne _ _ (by first | assumption | omega | (simp only [St.set_n, St.new_n] at *; omega))]; conv => whnf)
          | (rw [St.new_ne _ _ (by first | assumption | omega | (simp only [St.set_n, St.new_n] at *; omega))]; conv => whnf))
      refine Exists.intro (fun _ _ => True) ?_
      conv => whnf
      repeat' (first
          | (refine Bc_t ?_; conv => whnf)
          | (refine Bc_f ?_; conv => whnf)
          | (rw [g1]; conv => whnf)
          | (rw [g2]; conv => whnf)
          | (rw [g3]; conv => whnf)
          | (rw [g4]; conv => whnf)
          | (rw [g5]; conv => whnf)
          | (rw [g6]; conv => whnf)
          | (rw [hr]; conv => whnf)
          | (refine Bc_split (fun hb => ?_) (fun hb => ?_) <;> (rw [hb]; conv => whnf))
          | (refine And.intro (by first
              | omega
              | assumption
              | (simp only [St.set_n, St.new_n] at *; omega)
              | (simp; done)
              | (simp; omega)
              | (intro _; exact trivial)
              | (intro _; intro _ _; exact trivial)
              | (intro _; intro j hj; first | rfl | (have hj' : j < 1 := hj
                                                     obtain rfl : j = 0 := by omega
                                                     exact ⟨rfl, rfl⟩))
              | (intro j hj; obtain rfl : j = 0 := by omega
                 first | exact ⟨rfl, rfl⟩ | exact .inl ⟨rfl, rfl⟩ | exact .inr (by omega) | exact ⟨by assumption, by assumption⟩ | assumption | trivial)
              | exact .inr (by assumption)
              | (intro j hj; exact .inr (by simp only [St.set_n, St.new_n] at *; omega))
              | (intro e he; rcases List.mem_singleton.1 he with rfl; exact ⟨rfl, rfl⟩)
              | (rw [St.set_ne _ _ (by first | assumption | omega | (simp only [St.set_n, St.new_n] at *; omega))]; assumption)
              | (rw [St.set_ne _ _ (by first | assumption | omega | (simp only [St.set_n, St.new_n] at *; omega)), St.set_ne _ _ (by first | assumption | omega | (simp only [St.set_n, St.new_n] at *; omega))]; assumption)
              | (simp only [decide_eq_true_eq, decide_eq_false_iff_not, Bool.not_eq_true, beq_iff_eq, beq_eq_false_iff_ne, ne_eq, ge_iff_le, gt_iff_lt] at *; omega)) ?_; conv => whnf)
          | (rw [St.set_same]; conv => whnf)
          | (rw [St.new_same]; conv => whnf)
          | (rw [St.set_ne _ _ (by first | assumption | omega | (simp only [St.set_n, St.new_n] at *; omega))]; conv => whnf)
          | (rw [St.new_ne _ _ (by first | assumption | omega | (simp only [St.set_n, St.new_n] at *; omega))]; conv => whnf))
      refine ACallsW.of (indexByte_ok hexs a _ Non) (fun _ _ _ h => h.elim) ?_
      rintro _ _ _ ⟨rfl, rfl⟩
      conv => whnf
      repeat' (first
          | (refine Bc_t ?_; conv => whnf)
          | (refine Bc_f ?_; conv => whnf)
          | (rw [g1]; conv => whnf)
          | (rw [g2]; conv => whnf)
          | (rw [g3]; conv => whnf)
          | (rw [g4]; conv => whnf)
          | (rw [g5]; conv => whnf)
          | (rw [g6]; conv => whnf)
          | (rw [hr]; conv => whnf)
          | (refine Bc_split (fun hb => ?_) (fun hb => ?_) <;> (rw [hb]; conv => whnf))
          | (refine And.intro (by first
              | omega
              | assumption
              | (simp only [St.set_n, St.new_n] at *; omega)
              | (simp; done)
              | (simp; omega)
              | (intro _; exact trivial)
              | (intro _; intro _ _; exact trivial)
              | (intro _; intro j hj; first | rfl | (have hj' : j < 1 := hj
                                                     obtain rfl : j = 0 := by omega
                                                     exact ⟨rfl, rfl⟩))
              | (intro j hj; obtain rfl : j = 0 := by omega
                 first | exact ⟨rfl, rfl⟩ | exact .inl ⟨rfl, rfl⟩ | exact .inr (by omega) | exact ⟨by assumption, by assumption⟩ | assumption | trivial)
              | exact .inr (by assumption)
              | (intro j hj; exact .inr (by simp only [St.set_n, St.new_n] at *; omega))
              | (intro e he; rcases List.mem_singleton.1 he with rfl; exact ⟨rfl, rfl⟩)
              | (rw [St.set_ne _ _ (by first | assumption | omega | (simp only [St.set_n, St.new_n] at *; omega))]; assumption)
              | (rw [St.set_ne _ _ (by first | assumption | omega | (simp only [St.set_n, St.new_n] at *; omega)), St.set_ne _ _ (by first | assumption | omega | (simp only [St.set_n, St.new_n] at *; omega))]; assumption)
              | (simp only [decide_eq_true_eq, decide_eq_false_iff_not, Bool.not_eq_true, beq_iff_eq, beq_eq_false_iff_ne, ne_eq, ge_iff_le, gt_iff_lt] at *; omega)) ?_; conv => whnf)
          | (rw [St.set_same]; conv => whnf)
          | (rw [St.new_same]; conv => whnf)
          | (rw [St.set_ne _ _ (by first | assumption | omega | (simp only [St.set_n, St.new_n] at *; omega))]; conv => whnf)
          | (rw [St.new_ne _ _ (by first | assumption | omega | (simp only [St.set_n, St.new_n] at *; omega))]; conv => whnf))
      refine ACallsW.of (indexByte_ok hexs b _ Non) (fun _ _ _ h => h.elim) ?_
      rintro _ _ _ ⟨rfl, rfl⟩
      conv => whnf
      have ha := hex_idx a
      have hb1 := hex_idx b
      rw [hfo]
      rw [ha, hb1]
      cases hxa : hexVal a with
      | none =>
        conv => whnf
        repeat' (first
            | (refine Bc_t ?_; conv => whnf)
            | (refine Bc_f ?_; conv => whnf)
            | (rw [g1]; conv => whnf)
            | (rw [g2]; conv => whnf)
            | (rw [g3]; conv => whnf)
            | (rw [g4]; conv => whnf)
            | (rw [g5]; conv => whnf)
            | (rw [g6]; conv => whnf)
            | (rw [hr]; conv => whnf)
            | (refine Bc_split (fun hb => ?_) (fun hb => ?_) <;> (rw [hb]; conv => whnf))
            | (refine And.intro (by first
                | omega
                | assumption
                | (simp only [St.set_n, St.new_n] at *; omega)
                | (simp; done)
                | (simp; omega)
                | (intro _; exact trivial)
                | (intro _; intro _ _; exact trivial)
                | (intro _; intro j hj; first | rfl | (have hj' : j < 1 := hj
                                                       obtain rfl : j = 0 := by omega
                                                       exact ⟨rfl, rfl⟩))
                | (intro j hj; obtain rfl : j = 0 := by omega
                   first | exact ⟨rfl, rfl⟩ | exact .inl ⟨rfl, rfl⟩ | exact .inr (by omega) | exact ⟨by assumption, by assumption⟩ | assumption | trivial)
                | exact .inr (by assumption)
                | (intro j hj; exact .inr (by simp only [St.set_n, St.new_n] at *; omega))
                | (intro e he; rcases List.mem_singleton.1 he with rfl; exact ⟨rfl, rfl⟩)
                | (rw [St.set_ne _ _ (by first | assumption | omega | (simp only [St.set_n, St.new_n] at *; omega))]; assumption)
                | (rw [St.set_ne _ _ (by first | assumption | omega | (simp only [St.set_n, St.new_n] at *; omega)), St.set_ne _ _ (by first | assumption | omega | (simp only [St.set_n, St.new_n] at *; omega))]; assumption)
                | (simp only [decide_eq_true_eq, decide_eq_false_iff_not, Bool.not_eq_true, beq_iff_eq, beq_eq_false_iff_ne, ne_eq, ge_iff_le, gt_iff_lt] at *; omega)) ?_; conv => whnf)
            | (rw [St.set_same]; conv => whnf)
            | (rw [St.new_same]; conv => whnf)
            | (rw [St.set_ne _ _ (by first | assumption | omega | (simp only [St.set_n, St.new_n] at *; omega))]; conv => whnf)
            | (rw [St.new_ne _ _ (by first | assumption | omega | (simp only [St.set_n, St.new_n] at *; omega))]; conv => whnf))
        exact Fin.of (by cases hexVal b <;> rfl)
      | some x =>
        have hx := hex_lt hxa
        have g3 : decide ((x : Int) ≥ 0) = true := by simp
        cases hyb : hexVal b with
        | none =>
          conv => whnf
          repeat' (first
              | (refine Bc_t ?_; conv => whnf)
              | (refine Bc_f ?_; conv => whnf)
              | (rw [g1]; conv => whnf)
              | (rw [g2]; conv => whnf)
              | (rw [g3]; conv => whnf)
              | (rw [g4]; conv => whnf)
              | (rw [g5]; conv => whnf)
              | (rw [g6]; conv => whnf)
              | (rw [hr]; conv => whnf)
              | (refine Bc_split (fun hb => ?_) (fun hb => ?_) <;> (rw [hb]; conv => whnf))
              | (refine And.intro (by first
                  | omega
                  | assumption
                  | (simp only [St.set_n, St.new_n] at *; omega)
                  | (simp; done)
                  | (simp; omega)
                  | (intro _; exact trivial)
                  | (intro _; intro _ _; exact trivial)
                  | (intro _; intro j hj; first | rfl | (have hj' : j < 1 := hj
                                                         obtain rfl : j = 0 := by omega
                                                         exact ⟨rfl, rfl⟩))
                  | (intro j hj; obtain rfl : j = 0 := by omega
                     first | exact ⟨rfl, rfl⟩ | exact .inl ⟨rfl, rfl⟩ | exact .inr (by omega) | exact ⟨by assumption, by assumption⟩ | assumption | trivial)
                  | exact .inr (by assumption)
                  | (intro j hj; exact .inr (by simp only [St.set_n, St.new_n] at *; omega))
                  | (intro e he; rcases List.mem_singleton.1 he with rfl; exact ⟨rfl, rfl⟩)
                  | (rw [St.set_ne _ _ (by first | assumption | omega | (simp only [St.set_n, St.new_n] at *; omega))]; assumption)
                  | (rw [St.set_ne _ _ (by first | assumption | omega | (simp only [St.set_n, St.new_n] at *; omega)), St.set_ne _ _ (by first | assumption | omega | (simp only [St.set_n, St.new_n] at *; omega))]; assumption)
                  | (simp only [decide_eq_true_eq, decide_eq_false_iff_not, Bool.not_eq_true, beq_iff_eq, beq_eq_false_iff_ne, ne_eq, ge_iff_le, gt_iff_lt] at *; omega)) ?_; conv => whnf)
              | (rw [St.set_same]; conv => whnf)
              | (rw [St.new_same]; conv => whnf)
              | (rw [St.set_ne _ _ (by first | assumption | omega | (simp only [St.set_n, St.new_n] at *; omega))]; conv => whnf)
              | (rw [St.new_ne _ _ (by first | assumption | omega | (simp only [St.set_n, St.new_n] at *; omega))]; conv => whnf))
          exact Fin.of rfl
        | some y =>
          have hy := hex_lt hyb
          have g4 : decide ((y : Int) ≥ 0) = true := by simp
          conv => whnf
          repeat' (first
              | (refine Bc_t ?_; conv => whnf)
              | (refine Bc_f ?_; conv => whnf)
              | (rw [g1]; conv => whnf)
              | (rw [g2]; conv => whnf)
              | (rw [g3]; conv => whnf)
              | (rw [g4]; conv => whnf)
              | (rw [g5]; conv => whnf)
              | (rw [g6]; conv => whnf)
              | (rw [hr]; conv => whnf)
              | (refine Bc_split (fun hb => ?_) (fun hb => ?_) <;> (rw [hb]; conv => whnf))
              | (refine And.intro (by first
                  | omega
                  | assumption
                  | (simp only [St.set_n, St.new_n] at *; omega)
                  | (simp; done)
                  | (simp; omega)
                  | (intro _; exact trivial)
                  | (intro _; intro _ _; exact trivial)
                  | (intro _; intro j hj; first | rfl | (have hj' : j < 1 := hj
                                                         obtain rfl : j = 0 := by omega
                                                         exact ⟨rfl, rfl⟩))
                  | (intro j hj; obtain rfl : j = 0 := by omega
                     first | exact ⟨rfl, rfl⟩ | exact .inl ⟨rfl, rfl⟩ | exact .inr (by omega) | exact ⟨by assumption, by assumption⟩ | assumption | trivial)
                  | exact .inr (by assumption)
                  | (intro j hj; exact .inr (by simp only [St.set_n, St.new_n] at *; omega))
                  | (intro e he; rcases List.mem_singleton.1 he with rfl; exact ⟨rfl, rfl⟩)
                  | (rw [St.set_ne _ _ (by first | assumption | omega | (simp only [St.set_n, St.new_n] at *; omega))]; assumption)
                  | (rw [St.set_ne _ _ (by first | assumption | omega | (simp only [St.set_n, St.new_n] at *; omega)), St.set_ne _ _ (by first | assumption | omega | (simp only [St.set_n, St.new_n] at *; omega))]; assumption)
                  | (simp only [decide_eq_true_eq, decide_eq_false_iff_not, Bool.not_eq_true, beq_iff_eq, beq_eq_false_iff_ne, ne_eq, ge_iff_le, gt_iff_lt] at *; omega)) ?_; conv => whnf)
              | (rw [St.set_same]; conv => whnf)
              | (rw [St.new_same]; conv => whnf)
              | (rw [St.set_ne _ _ (by first | assumption | omega | (simp only [St.set_n, St.new_n] at *; omega))]; conv => whnf)
              | (rw [St.new_ne _ _ (by first | assumption | omega | (simp only [St.set_n, St.new_n] at *; omega))]; conv => whnf))
          refine Fin.of ⟨?_, ?_⟩
          · rw [St.set_set]
            refine congrArg (σ.set r) (rd_eq (k := s.length - r2.length) ?_)
            rw [w64 (n := (at_ : Int) + 1) (by omega) (by omega), w64 (by omega) (by omega)]
            omega
          · refine congrArg (fun z => AEnd.ret (A.int .u8 z)) ?_
            show IntKind.u8.wrap (IntKind.i64.wrap (IntKind.i64.wrap (16 * (x : Int)) + (y : Int))) = _
            rw [w64 (n := 16 * (x : Int)) (by omega) (by omega), w64 (by omega) (by omega), wu8 (by omega) (by omega), UInt8.toNat_ofNat']
            omega
  have q120 : (c == 120) = false := beq_eq_false_iff_ne.2 h120
  have g2 : ((((c :: r1).getD (Int.toNat 0) 0).toNat : Int) == 34) = false := byte_ne c 34 h34
  have g3 : ((((c :: r1).getD (Int.toNat 0) 0).toNat : Int) == 92) = false := byte_ne c 92 h92
  have g4 : ((((c :: r1).getD (Int.toNat 0) 0).toNat : Int) == 110) = false := byte_ne c 110 h110
  have g5 : ((((c :: r1).getD (Int.toNat 0) 0).toNat : Int) == 116) = false := byte_ne c 116 h116
  have g6 : ((((c :: r1).getD (Int.toNat 0) 0).toNat : Int) == 120) = false := byte_ne c 120 h120
  refine acalls_go mixed Tryd.func49 c_form_ok (Nat.le_of_ble_eq_true rfl) ?_
  conv => whnf
  repeat' (first
      | (refine Bc_t ?_; conv => whnf)
      | (refine Bc_f ?_; conv => whnf)
      | (rw [g1]; conv => whnf)
      | (rw [g2]; conv => whnf)
      | (rw [g3]; conv => whnf)
      | (rw [g4]; conv => whnf)
      | (rw [g5]; conv => whnf)
      | (rw [g6]; conv => whnf)
      | (rw [hr]; conv => whnf)
      | (refine Bc_split (fun hb => ?_) (fun hb => ?_) <;> (rw [hb]; conv => whnf))
      | (refine And.intro (by first
          | omega
          | assumption
          | (simp only [St.set_n, St.new_n] at *; omega)
          | (simp; done)
          | (simp; omega)
          | (intro _; exact trivial)
          | (intro _; intro _ _; exact trivial)
          | (intro _; intro j hj; first | rfl | (have hj' : j < 1 := hj
                                                 obtain rfl : j = 0 := by omega
                                                 exact ⟨rfl, rfl⟩))
          | (intro j hj; obtain rfl : j = 0 := by omega
             first | exact ⟨rfl, rfl⟩ | exact .inl ⟨rfl, rfl⟩ | exact .inr (by omega) | exact ⟨by assumption, by assumption⟩ | assumption | trivial)
          | exact .inr (by assumption)
          | (intro j hj; exact .inr (by simp only [St.set_n, St.new_n] at *; omega))
          | (intro e he; rcases List.mem_singleton.1 he with rfl; exact ⟨rfl, rfl⟩)
          | (rw [St.set_ne _ _ (by first | assumption | omega | (simp only [St.set_n, St.new_n] at *; omega))]; assumption)
          | (rw [St.set_ne _ _ (by first | assumption | omega | (simp only [St.set_n, St.new_n] at *; omega)), St.set_ne _ _ (by first | assumption | omega | (simp only [St.set_n, St.new_n] at *; omega))]; assumption)
          | (simp only [decide_eq_true_eq, decide_eq_false_iff_not, Bool.not_eq_true, beq_iff_eq, beq_eq_false_iff_ne, ne_eq, ge_iff_le, gt_iff_lt] at *; omega)) ?_; conv => whnf)
      | (rw [St.set_same]; conv => whnf)
      | (rw [St.new_same]; conv => whnf)
      | (rw [St.set_ne _ _ (by first | assumption | omega | (simp only [St.set_n, St.new_n] at *; omega))]; conv => whnf)
      | (rw [St.new_ne _ _ (by first | assumption | omega | (simp only [St.set_n, St.new_n] at *; omega))]; conv => whnf))
  have hfo : form (c :: r1) = none := by rw [form_cons]; simp [h34, h92, h110, h116, h120]
  rw [hfo]
  exact Fin.of rfl
end
end Go.Proofs.YtjeccchbeflddaaDoor.Ga
