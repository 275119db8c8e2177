/- The reference's lexer: one token. -/
import Derived.Test.YtjeccchbeflddaaGreatDoorRz4
import Derived.Test.YtjeccchbeflddaaGreatDoorLc2
set_option linter.unusedVariables false
set_option linter.unusedSimpArgs false
namespace Go.Proofs.YtjeccchbeflddaaGreatDoor.Lx
def signR : List (List UInt8) := [[91, 124], [124, 93], [59, 59], [58, 58], [58, 61], [60, 45], [45, 62], [124, 124], [38, 38], [60, 62], [60, 61], [62, 61], [46, 40], [40], [41], [91], [93], [123], [125], [59], [44], [58], [124], [61], [60], [62], [43], [45], [42], [47], [94], [33], [46]]
theorem signR_in : ∀ x ∈ signR, x ∈ signL := by decide +kernel
theorem signL_in : ∀ x ∈ signL, x ∈ signR := by decide +kernel
theorem signR_small : ∀ x ∈ signR, x.length ≤ 2 ∧ x ≠ [] := by decide +kernel
theorem signR_down : signR.Pairwise (fun a b => b.length ≤ a.length) := by decide +kernel
theorem signR_first {l x : List UInt8} {k : Nat} (hx : signR[k]? = some x) (hp : x <+: l) (hno : ∀ y ∈ signR.take k, ¬ y <+: l) : signOf l = x := by
  have hxm := List.mem_of_getElem? hx
  have h1 := signOf_max (signR_in x hxm) hp
  rcases signOf_mem l with q | q
  · rw [q] at h1
    have : x = [] := List.length_eq_zero_iff.1 (by simpa using h1)
    exact absurd this (signR_small x hxm).2
  · obtain ⟨m, hm, hme⟩ := List.mem_iff_getElem.1 (signL_in _ q)
    have hmk : k ≤ m := by
      rcases Nat.lt_or_ge m k with w | w
      · exact absurd (signOf_pre l) (hno _ (List.mem_take_iff_getElem.2 ⟨m, by omega, hme⟩))
      · exact w
    have h2 : (signOf l).length ≤ x.length := by
      rcases Nat.lt_or_ge k m with w | w
      · have hk : k < signR.length := by omega
        have := List.pairwise_iff_getElem.1 signR_down k m hk hm w
        rw [hme] at this
        rw [List.getElem?_eq_getElem hk] at hx
        rw [← Option.some.inj hx]
        exact this
      · have : k = m := by omega
        subst this
        rw [List.getElem?_eq_getElem hm] at hx
        rw [← hme, Option.some.inj hx]
        exact Nat.le_refl _
    exact pre_len (signOf_pre l) hp (by omega)
theorem signR_none {l : List UInt8} (hno : ∀ y ∈ signR, ¬ y <+: l) : signOf l = [] := by
  rcases signOf_mem l with q | q
  · exact q
  · exact absurd (signOf_pre l) (hno _ (signL_in _ q))
theorem nameLen_eq : ∀ (n : Nat) (l : List UInt8), (l.take n).all isName = true → n ≤ l.length → (n = l.length ∨ isName (l.getD n 0) = false) → nameLen l = n
  | 0, [], _, _, _ => rfl
  | 0, c :: r, _, _, h => by
    rcases h with h | h
    · simp at h
    · unfold nameLen
      rw [List.takeWhile_cons_of_neg (by simpa using h)]
      rfl
  | n + 1, [], _, h, _ => by simp at h
  | n + 1, c :: r, ha, hl, h => by
    simp only [List.take_succ_cons, List.all_cons, Bool.and_eq_true] at ha
    have := nameLen_eq n r ha.2 (by simpa using hl) (h.imp (fun q => by simpa using q) (fun q => by simpa using q))
    unfold nameLen at this ⊢
    rw [List.takeWhile_cons_of_pos ha.1, List.length_cons, this]
end Go.Proofs.YtjeccchbeflddaaGreatDoor.Lx
namespace Go.Proofs.YtjeccchbeflddaaGreatDoor.Ga
open Lx

def c_zsigns : SFun := ⟨2, (.seq (.reg [⟨(some 0), (.mov (.const .nils)), none⟩]) (.seq (.reg [⟨(some 1), (.buildSl 1 (.str []) 33 [(0, (.const (.str [91, 124]))), (1, (.const (.str [124, 93]))), (2, (.const (.str [59, 59]))), (3, (.const (.str [58, 58]))), (4, (.const (.str [58, 61]))), (5, (.const (.str [60, 45]))), (6, (.const (.str [45, 62]))), (7, (.const (.str [124, 124]))), (8, (.const (.str [38, 38]))), (9, (.const (.str [60, 62]))), (10, (.const (.str [60, 61]))), (11, (.const (.str [62, 61]))), (12, (.const (.str [46, 40]))), (13, (.const (.str [40]))), (14, (.const (.str [41]))), (15, (.const (.str [91]))), (16, (.const (.str [93]))), (17, (.const (.str [123]))), (18, (.const (.str [125]))), (19, (.const (.str [59]))), (20, (.const (.str [44]))), (21, (.const (.str [58]))), (22, (.const (.str [124]))), (23, (.const (.str [61]))), (24, (.const (.str [60]))), (25, (.const (.str [62]))), (26, (.const (.str [43]))), (27, (.const (.str [45]))), (28, (.const (.str [42]))), (29, (.const (.str [47]))), (30, (.const (.str [94]))), (31, (.const (.str [33]))), (32, (.const (.str [46])))]), none⟩, ⟨(some 0), (.mov (.tmp 1)), none⟩]) .ret)), [(.tmp 0)]⟩
theorem c_zsigns_ok : cFun Tryz.prog Tryz.f38 = some c_zsigns := by kernel_rfl
def c_zone : SFun := ⟨157, (.seq (.reg [⟨(some 4), (.alloc [(.int .i64 0), (.int .i64 0), (.int .i64 0), (.str [])]), none⟩, ⟨(some 5), (.mov (.const (.int .i64 0))), none⟩, ⟨(some 6), (.mov (.const (.int .i64 0))), none⟩]) (.seq (.reg [⟨(some 16), (.mov (.tmp 1)), none⟩, ⟨(some 17), (.build [(.int .i64 0), (.int .i64 0), (.int .i64 0), (.str [])] [(1, (1, (.tmp 16)))]), none⟩, ⟨(some 7), (.alloc [(.int .i64 0), (.int .i64 0), (.int .i64 0), (.str [])]), none⟩, ⟨none, (.store 4 (.tmp 7) (.tmp 17)), none⟩]) (.seq (.reg [⟨(some 8), (.mov (.const (.int .i64 0))), none⟩]) (.seq (.block 0 (.loop (.seq (.seq (.reg [⟨(some 18), (.mov (.tmp 1)), none⟩, ⟨(some 19), (.mov (.tmp 8)), none⟩, ⟨(some 20), (.bin .add .none (.tmp 18) (.tmp 19)), none⟩, ⟨(some 21), (.mov (.tmp 0)), none⟩, ⟨(some 22), (.len .str (.tmp 21)), none⟩, ⟨(some 23), (.bin .lss .none (.tmp 20) (.tmp 22)), none⟩, ⟨(some 24), (.mov (.tmp 23)), none⟩, ⟨(some 25), (.mov (.tmp 0)), (some (24, true))⟩, ⟨(some 26), (.mov (.tmp 1)), (some (24, true))⟩, ⟨(some 27), (.mov (.tmp 8)), (some (24, true))⟩, ⟨(some 28), (.bin .add .none (.tmp 26) (.tmp 27)), (some (24, true))⟩, ⟨(some 29), (.idxStr (.tmp 25) (.tmp 28)), (some (24, true))⟩, ⟨(some 30), (.call 31 [(.tmp 29)]), (some (24, true))⟩, ⟨(some 31), (.mov (.tmp 30)), (some (24, true))⟩, ⟨(some 32), (.mov (.tmp 0)), (some (31, false))⟩, ⟨(some 33), (.mov (.tmp 1)), (some (31, false))⟩, ⟨(some 34), (.mov (.tmp 8)), (some (31, false))⟩, ⟨(some 35), (.bin .add .none (.tmp 33) (.tmp 34)), (some (31, false))⟩, ⟨(some 36), (.idxStr (.tmp 32) (.tmp 35)), (some (31, false))⟩, ⟨(some 37), (.call 32 [(.tmp 36)]), (some (31, false))⟩, ⟨(some 38), (.pick (.tmp 31) (.const (.bool true)) (.tmp 37)), (some (24, true))⟩, ⟨(some 39), (.mov (.tmp 38)), (some (24, true))⟩, ⟨(some 40), (.mov (.tmp 0)), (some (39, false))⟩, ⟨(some 41), (.mov (.tmp 1)), (some (39, false))⟩, ⟨(some 42), (.mov (.tmp 8)), (some (39, false))⟩, ⟨(some 43), (.bin .add .none (.tmp 41) (.tmp 42)), (some (39, false))⟩, ⟨(some 44), (.idxStr (.tmp 40) (.tmp 43)), (some (39, false))⟩, ⟨(some 45), (.call 33 [(.tmp 44)]), (some (39, false))⟩, ⟨(some 46), (.pick (.tmp 39) (.const (.bool true)) (.tmp 45)), (some (24, true))⟩, ⟨(some 47), (.mov (.tmp 46)), (some (24, true))⟩, ⟨(some 48), (.mov (.tmp 0)), (some (47, false))⟩, ⟨(some 49), (.mov (.tmp 1)), (some (47, false))⟩, ⟨(some 50), (.mov (.tmp 8)), (some (47, false))⟩, ⟨(some 51), (.bin .add .none (.tmp 49) (.tmp 50)), (some (47, false))⟩, ⟨(some 52), (.idxStr (.tmp 48) (.tmp 51)), (some (47, false))⟩, ⟨(some 53), (.bin .eql .none (.tmp 52) (.const (.int .u8 39))), (some (47, false))⟩, ⟨(some 54), (.pick (.tmp 47) (.const (.bool true)) (.tmp 53)), (some (24, true))⟩, ⟨(some 55), (.pick (.tmp 24) (.tmp 54) (.const (.bool false))), none⟩]) (.cond (.tmp 55) .skip (.exit 0))) (.block 1 (.reg [⟨(some 56), (.mov (.tmp 8)), none⟩, ⟨(some 57), (.bin .add .none (.tmp 56) (.const (.int .i64 1))), none⟩, ⟨(some 8), (.mov (.tmp 57)), none⟩]))))) (.seq (.reg [⟨(some 58), (.mov (.tmp 0)), none⟩, ⟨(some 59), (.mov (.tmp 1)), none⟩, ⟨(some 60), (.idxStr (.tmp 58) (.tmp 59)), none⟩, ⟨(some 9), (.mov (.tmp 60)), none⟩]) (.seq (.seq (.reg [⟨(some 61), (.mov (.tmp 9)), none⟩, ⟨(some 62), (.call 31 [(.tmp 61)]), none⟩, ⟨(some 63), (.mov (.tmp 62)), none⟩, ⟨(some 64), (.mov (.tmp 9)), (some (63, false))⟩, ⟨(some 65), (.call 32 [(.tmp 64)]), (some (63, false))⟩, ⟨(some 66), (.pick (.tmp 63) (.const (.bool true)) (.tmp 65)), none⟩]) (.cond (.tmp 66) (.seq (.reg [⟨(some 67), (.mov (.tmp 0)), none⟩, ⟨(some 68), (.mov (.tmp 1)), none⟩, ⟨(some 69), (.mov (.tmp 1)), none⟩, ⟨(some 70), (.mov (.tmp 8)), none⟩, ⟨(some 71), (.bin .add .none (.tmp 69) (.tmp 70)), none⟩, ⟨(some 72), (.sliceStr (.tmp 67) (some (.tmp 68)) (some (.tmp 71))), none⟩, ⟨(some 73), (.fieldAddr 3 (.tmp 7)), none⟩, ⟨none, (.store 1 (.tmp 73) (.tmp 72)), none⟩]) (.seq (.reg [⟨(some 74), (.fieldAddr 0 (.tmp 7)), none⟩, ⟨none, (.store 1 (.tmp 74) (.const (.int .i64 3))), none⟩]) (.seq (.seq (.reg [⟨(some 75), (.mov (.tmp 9)), none⟩, ⟨(some 76), (.call 32 [(.tmp 75)]), none⟩]) (.cond (.tmp 76) (.reg [⟨(some 77), (.fieldAddr 0 (.tmp 7)), none⟩, ⟨none, (.store 1 (.tmp 77) (.const (.int .i64 4))), none⟩]) (.seq (.reg [⟨(some 78), (.fieldAddr 3 (.tmp 7)), none⟩, ⟨(some 79), (.load false 1 (.tmp 78)), none⟩, ⟨(some 80), (.call 34 [(.tmp 79)]), none⟩, ⟨(some 81), (.mov (.tmp 80)), none⟩, ⟨(some 82), (.fieldAddr 3 (.tmp 7)), (some (81, false))⟩, ⟨(some 83), (.load false 1 (.tmp 82)), (some (81, false))⟩, ⟨(some 84), (.bin .eql .none (.tmp 83) (.const (.str [95]))), (some (81, false))⟩, ⟨(some 85), (.pick (.tmp 81) (.const (.bool true)) (.tmp 84)), none⟩]) (.cond (.tmp 85) (.reg [⟨(some 86), (.fieldAddr 0 (.tmp 7)), none⟩, ⟨none, (.store 1 (.tmp 86) (.const (.int .i64 5))), none⟩]) .skip)))) (.seq (.reg [⟨(some 87), (.load true 4 (.tmp 7)), none⟩, ⟨(some 88), (.mov (.tmp 8)), none⟩, ⟨none, (.store 4 (.tmp 4) (.tmp 87)), none⟩, ⟨(some 5), (.mov (.tmp 88)), none⟩, ⟨(some 6), (.mov (.const (.int .i64 0))), none⟩]) .ret)))) .skip)) (.seq (.seq (.reg [⟨(some 89), (.mov (.tmp 9)), none⟩, ⟨(some 90), (.call 33 [(.tmp 89)]), none⟩]) (.cond (.tmp 90) (.seq (.reg [⟨(some 92), (.mov (.tmp 0)), none⟩, ⟨(some 93), (.mov (.tmp 1)), none⟩, ⟨(some 94), (.mov (.tmp 1)), none⟩, ⟨(some 95), (.mov (.tmp 8)), none⟩, ⟨(some 96), (.bin .add .none (.tmp 94) (.tmp 95)), none⟩, ⟨(some 97), (.sliceStr (.tmp 92) (some (.tmp 93)) (some (.tmp 96))), none⟩, ⟨(some 98), (.call 35 [(.tmp 97)]), none⟩, ⟨(some 91), (.mov (.tmp 98)), none⟩, ⟨(some 99), (.extract (.tmp 91) 0), none⟩, ⟨(some 100), (.extract (.tmp 91) 1), none⟩, ⟨(some 10), (.mov (.tmp 99)), none⟩, ⟨(some 11), (.mov (.tmp 100)), none⟩]) (.seq (.seq (.reg [⟨(some 101), (.mov (.tmp 11)), none⟩, ⟨(some 102), (.bin .eql .none (.tmp 101) (.const (.int .i64 5))), none⟩]) (.cond (.tmp 102) (.seq (.reg [⟨(some 103), (.load true 4 (.tmp 7)), none⟩, ⟨none, (.store 4 (.tmp 4) (.tmp 103)), none⟩, ⟨(some 5), (.mov (.const (.int .i64 0))), none⟩, ⟨(some 6), (.mov (.const (.int .i64 20))), none⟩]) .ret) .skip)) (.seq (.seq (.reg [⟨(some 104), (.mov (.tmp 11)), none⟩, ⟨(some 105), (.bin .neq .none (.tmp 104) (.const (.int .i64 0))), none⟩]) (.cond (.tmp 105) (.seq (.reg [⟨(some 106), (.load true 4 (.tmp 7)), none⟩, ⟨(some 107), (.mov (.tmp 11)), none⟩, ⟨none, (.store 4 (.tmp 4) (.tmp 106)), none⟩, ⟨(some 5), (.mov (.const (.int .i64 0))), none⟩, ⟨(some 6), (.mov (.tmp 107)), none⟩]) .ret) .skip)) (.seq (.reg [⟨(some 108), (.fieldAddr 0 (.tmp 7)), none⟩, ⟨none, (.store 1 (.tmp 108) (.const (.int .i64 1))), none⟩]) (.seq (.reg [⟨(some 109), (.mov (.tmp 10)), none⟩, ⟨(some 110), (.call 36 [(.tmp 109)]), none⟩, ⟨(some 111), (.fieldAddr 2 (.tmp 7)), none⟩, ⟨none, (.store 1 (.tmp 111) (.tmp 110)), none⟩]) (.seq (.reg [⟨(some 112), (.load true 4 (.tmp 7)), none⟩, ⟨(some 113), (.mov (.tmp 8)), none⟩, ⟨none, (.store 4 (.tmp 4) (.tmp 112)), none⟩, ⟨(some 5), (.mov (.tmp 113)), none⟩, ⟨(some 6), (.mov (.const (.int .i64 0))), none⟩]) .ret)))))) .skip)) (.seq (.seq (.reg [⟨(some 114), (.mov (.tmp 9)), none⟩, ⟨(some 115), (.bin .eql .none (.tmp 114) (.const (.int .u8 34))), none⟩]) (.cond (.tmp 115) (.seq (.reg [⟨(some 117), (.mov (.tmp 0)), none⟩, ⟨(some 118), (.mov (.tmp 1)), none⟩, ⟨(some 119), (.call 37 [(.tmp 117), (.tmp 118)]), none⟩, ⟨(some 116), (.mov (.tmp 119)), none⟩, ⟨(some 120), (.extract (.tmp 116) 0), none⟩, ⟨(some 121), (.extract (.tmp 116) 1), none⟩, ⟨(some 12), (.mov (.tmp 120)), none⟩, ⟨(some 13), (.mov (.tmp 121)), none⟩]) (.seq (.seq (.reg [⟨(some 122), (.mov (.tmp 13)), none⟩, ⟨(some 123), (.bin .eql .none (.tmp 122) (.const (.int .i64 0))), none⟩]) (.cond (.tmp 123) (.seq (.reg [⟨(some 124), (.load true 4 (.tmp 7)), none⟩, ⟨none, (.store 4 (.tmp 4) (.tmp 124)), none⟩, ⟨(some 5), (.mov (.const (.int .i64 0))), none⟩, ⟨(some 6), (.mov (.const (.int .i64 20))), none⟩]) .ret) .skip)) (.seq (.reg [⟨(some 125), (.fieldAddr 0 (.tmp 7)), none⟩, ⟨none, (.store 1 (.tmp 125) (.const (.int .i64 2))), none⟩]) (.seq (.reg [⟨(some 126), (.mov (.tmp 12)), none⟩, ⟨(some 127), (.fieldAddr 3 (.tmp 7)), none⟩, ⟨none, (.store 1 (.tmp 127) (.tmp 126)), none⟩]) (.seq (.reg [⟨(some 128), (.load true 4 (.tmp 7)), none⟩, ⟨(some 129), (.mov (.tmp 13)), none⟩, ⟨none, (.store 4 (.tmp 4) (.tmp 128)), none⟩, ⟨(some 5), (.mov (.tmp 129)), none⟩, ⟨(some 6), (.mov (.const (.int .i64 0))), none⟩]) .ret))))) .skip)) (.seq (.reg [⟨(some 130), (.call 38 []), none⟩, ⟨(some 14), (.mov (.tmp 130)), none⟩]) (.seq (.seq (.reg [⟨(some 15), (.mov (.const (.int .i64 0))), none⟩]) (.block 2 (.loop (.seq (.seq (.reg [⟨(some 131), (.mov (.tmp 15)), none⟩, ⟨(some 132), (.mov (.tmp 14)), none⟩, ⟨(some 133), (.len .sl (.tmp 132)), none⟩, ⟨(some 134), (.bin .lss .none (.tmp 131) (.tmp 133)), none⟩]) (.cond (.tmp 134) .skip (.exit 2))) (.seq (.block 3 (.seq (.reg [⟨(some 137), (.mov (.tmp 0)), none⟩, ⟨(some 138), (.mov (.tmp 1)), none⟩, ⟨(some 139), (.mov (.tmp 14)), none⟩, ⟨(some 140), (.mov (.tmp 15)), none⟩, ⟨(some 141), (.idxAddr 1 (.tmp 139) (.tmp 140)), none⟩, ⟨(some 142), (.load false 1 (.tmp 141)), none⟩, ⟨(some 143), (.call 14 [(.tmp 137), (.tmp 138), (.tmp 142)]), none⟩]) (.cond (.tmp 143) (.seq (.reg [⟨(some 144), (.fieldAddr 0 (.tmp 7)), none⟩, ⟨none, (.store 1 (.tmp 144) (.const (.int .i64 5))), none⟩]) (.seq (.reg [⟨(some 145), (.mov (.tmp 14)), none⟩, ⟨(some 146), (.mov (.tmp 15)), none⟩, ⟨(some 147), (.idxAddr 1 (.tmp 145) (.tmp 146)), none⟩, ⟨(some 148), (.load false 1 (.tmp 147)), none⟩, ⟨(some 149), (.fieldAddr 3 (.tmp 7)), none⟩, ⟨none, (.store 1 (.tmp 149) (.tmp 148)), none⟩]) (.seq (.dreg [(0, ⟨(some 150), (.load true 4 (.tmp 7)), none⟩), (0, ⟨(some 151), (.mov (.tmp 14)), none⟩), (0, ⟨(some 152), (.mov (.tmp 15)), none⟩), (0, ⟨(some 153), (.idxAddr 1 (.tmp 151) (.tmp 152)), none⟩), (0, ⟨(some 154), (.load false 1 (.tmp 153)), none⟩), (0, ⟨(some 155), (.len .str (.tmp 154)), none⟩), (1, ⟨none, (.store 4 (.tmp 4) (.tmp 150)), none⟩), (0, ⟨(some 5), (.mov (.tmp 155)), none⟩), (2, ⟨(some 6), (.mov (.const (.int .i64 0))), none⟩)]) .ret))) .skip))) (.reg [⟨(some 135), (.mov (.tmp 15)), none⟩, ⟨(some 136), (.bin .add .none (.tmp 135) (.const (.int .i64 1))), none⟩, ⟨(some 15), (.mov (.tmp 136)), none⟩])))))) (.seq (.reg [⟨(some 156), (.load true 4 (.tmp 7)), none⟩, ⟨none, (.store 4 (.tmp 4) (.tmp 156)), none⟩, ⟨(some 5), (.mov (.const (.int .i64 0))), none⟩, ⟨(some 6), (.mov (.const (.int .i64 20))), none⟩]) .ret))))))))))), [(.cell 4 true 4), (.tmp 5), (.tmp 6)]⟩
theorem c_zone_ok : cFun Tryz.prog Tryz.f16 = some c_zone := by kernel_rfl

def oneA (s : List UInt8) (i : Nat) : A := match tok (s.drop i) with
  | .ok (k, n, S, l) => .tup [tokA k i n S, .int .i64 ((s.length - i - l.length : Nat)), .int .i64 0]
  | .error e => .tup [tokA 0 i 0 [], .int .i64 0, .int .i64 e]

section
attribute [local irreducible] Bc ACallsW ALoop Fin St.set St.new
theorem zsigns_ok (σ : St) (m) : ACalls Tryz.prog 38 [] σ m (fun e σ' => σ' = σ ∧ e = .ret (.sl .full 1 (signR.map A.str))) := by
  refine acalls_go mixed Tryz.func38 c_zsigns_ok (Nat.le_of_ble_eq_true rfl) ?_
  conv => whnf
  exact Fin.of ⟨rfl, rfl⟩

set_option maxHeartbeats 8000000 in
theorem zone_raw (s : List UInt8) (i : Nat) (hs : s.length ≤ 4096) (hi : i < s.length) (σ : St) : ACalls Tryz.prog 16 [.str s, .int .i64 i] σ (fun id _ => σ.n ≤ id) (fun e σ' => e = .ret (oneA s i)) := by
  refine acalls_go mixed Tryz.func16 c_zone_ok (Nat.le_of_ble_eq_true rfl) ?_
  conv => whnf
  repeat' (first
    | (refine Bc_t ?_; conv => whnf) | (refine Bc_f ?_; conv => whnf) | (rw [g1]; conv => whnf) | (rw [g2]; conv => whnf) | (rw [g3]; conv => whnf) | (rw [g4]; conv => whnf)
    | (rw [g5]; conv => whnf) | (rw [g6]; conv => whnf) | (rw [g7]; conv => whnf) | (rw [hr]; conv => whnf)
    | (refine And.intro (by first | omega | assumption | (simp only [St.set_n, St.new_n] at *; omega) | (simp; done) | (simp; omega) | (intro _ _; first | assumption | (simp only [St.set_n, St.new_n] at *; omega)) | (intro _; exact trivial) | (intro _; intro _ _; exact trivial) | (intro _; intro j hj; rfl)) ?_; conv => whnf)
    | (rw [St.set_same]; conv => whnf) | (rw [St.new_same]; conv => whnf)
    | (rw [St.set_ne _ _ (by first | assumption | omega | (simp only [St.set_n, St.new_n] at *; omega))]; conv => whnf)
    | (rw [St.new_ne _ _ (by first | assumption | omega | (simp only [St.set_n, St.new_n] at *; omega))]; conv => whnf))
  unfold ALoop
  refine ⟨fun k env σ1 => ∃ n : Nat, k = s.length - n ∧ i + n ≤ s.length ∧ ((s.drop i).take n).all isName = true ∧ σ1.n = σ.n + 2 ∧ σ1.obj σ.n = .cells [.int .i64 0, .int .i64 0, .int .i64 0, .str []] ∧
      σ1.obj (σ.n + 1) = .cells [.int .i64 0, .int .i64 i, .int .i64 0, .str []] ∧ env = [(0, .str s), (1, .int .i64 i), (4, .ptr σ.n 0), (7, .ptr (σ.n + 1) 0), (8, .int .i64 n)], _,
    [(0, .str s), (1, .int .i64 i), (4, .ptr σ.n 0), (7, .ptr (σ.n + 1) 0), (8, .int .i64 0)], ⟨rfl, rfl, rfl, congrArg (fun z => some (A.ptr z 0)) (St.new_n _ _), rfl, trivial⟩,
    ⟨0, rfl, by omega, by simp, by simp only [St.set_n, St.new_n], by rw [St.set_ne _ _ (by simp only [St.new_n]; omega), St.new_ne _ _ (by simp only [St.new_n]; omega), St.new_same], by rw [show σ.n + 1 = (σ.new (.cells [.int .i64 0, .int .i64 0, .int .i64 0, .str []])).n from (St.new_n _ _).symm, St.set_same]; rfl, rfl⟩, ?_⟩
  rintro k env σ1 ⟨n, rfl, hin, hall, hn1, ho1, ho2, rfl⟩
  have hdl : (s.drop i).length = s.length - i := List.length_drop ..
  have hgn : (s.drop i).getD n 0 = s.getD (i + n) 0 := by simp [List.getD, List.getElem?_drop]
  have hw : IntKind.i64.wrap ((i : Int) + (n : Int)) = ((i + n : Nat) : Int) := by rw [w64 (by omega) (by omega)]; omega
  have c39 := u8_beqz (s.getD (i + n) 0) 39
  by_cases hgo : i + n < s.length ∧ isName (s.getD (i + n) 0) = true
  · obtain ⟨hlt, hnm⟩ := hgo
    have g1 : decide (((i + n : Nat) : Int) < s.length) = true := decide_eq_true (by omega)
    have hr := hw
    have hinc : IntKind.i64.wrap ((n : Int) + 1) = ((n + 1 : Nat) : Int) := by rw [w64 (by omega) (by omega)]; omega
    have next : ∀ env' : Env, EnvSub [(0, .str s), (1, .int .i64 i), (4, .ptr σ.n 0), (7, .ptr (σ.n + 1) 0), (8, .int .i64 (n + 1 : Nat))] env' →
        ∃ k' env'', k' < s.length - n ∧ EnvSub env'' env' ∧ ∃ n : Nat, k' = s.length - n ∧ i + n ≤ s.length ∧ ((s.drop i).take n).all isName = true ∧ σ1.n = σ.n + 2 ∧ σ1.obj σ.n = .cells [.int .i64 0, .int .i64 0, .int .i64 0, .str []] ∧
          σ1.obj (σ.n + 1) = .cells [.int .i64 0, .int .i64 i, .int .i64 0, .str []] ∧ env'' = [(0, .str s), (1, .int .i64 i), (4, .ptr σ.n 0), (7, .ptr (σ.n + 1) 0), (8, .int .i64 n)] := by
      intro env' he
      refine ⟨_, _, ?_, he, n + 1, rfl, by omega, ?_, hn1, ho1, ho2, rfl⟩
      · omega
      · have hq : (s.drop i)[n]? = some (s.getD (i + n) 0) := by rw [List.getElem?_drop]; simp [hlt]
        rw [List.take_add_one, hq, List.all_append, hall]
        simpa using hnm
    have hnm' := hnm
    unfold isName at hnm'
    have gc : s.getD ((i + n : Nat) : Int).toNat 0 = s.getD (i + n) 0 := rfl
    conv => whnf
    repeat' (first
      | (refine Bc_t ?_; conv => whnf) | (refine Bc_f ?_; conv => whnf) | (rw [g1]; conv => whnf) | (rw [g2]; conv => whnf) | (rw [g3]; conv => whnf) | (rw [g4]; conv => whnf)
      | (rw [g5]; conv => whnf) | (rw [g6]; conv => whnf) | (rw [g7]; conv => whnf) | (rw [hr]; conv => whnf)
      | (refine And.intro (by first | omega | assumption | (simp only [St.set_n, St.new_n] at *; omega) | (simp; done) | (simp; omega) | (intro _ _; first | assumption | (simp only [St.set_n, St.new_n] at *; omega)) | (intro _; exact trivial) | (intro _; intro _ _; exact trivial) | (intro _; intro j hj; rfl)) ?_; conv => whnf)
      | (rw [St.set_same]; conv => whnf) | (rw [St.new_same]; conv => whnf)
      | (rw [St.set_ne _ _ (by first | assumption | omega | (simp only [St.set_n, St.new_n] at *; omega))]; conv => whnf)
      | (rw [St.new_ne _ _ (by first | assumption | omega | (simp only [St.set_n, St.new_n] at *; omega))]; conv => whnf))
    refine ACallsW.of (zsmall_ok (s.getD (i + n) 0) _ Non) (fun _ _ _ h => h.elim) ?_
    rintro _ σ2 _ ⟨e1, rfl⟩
    have e2 := e1.symm
    subst e2
    cases hsm : isSmall (s.getD (i + n) 0) with
    | true =>
      conv => whnf
      repeat' (first
        | (refine Bc_t ?_; conv => whnf) | (refine Bc_f ?_; conv => whnf) | (rw [g1]; conv => whnf) | (rw [g2]; conv => whnf) | (rw [g3]; conv => whnf) | (rw [g4]; conv => whnf)
        | (rw [g5]; conv => whnf) | (rw [g6]; conv => whnf) | (rw [g7]; conv => whnf) | (rw [hr]; conv => whnf)
        | (refine And.intro (by first | omega | assumption | (simp only [St.set_n, St.new_n] at *; omega) | (simp; done) | (simp; omega) | (intro _ _; first | assumption | (simp only [St.set_n, St.new_n] at *; omega)) | (intro _; exact trivial) | (intro _; intro _ _; exact trivial) | (intro _; intro j hj; rfl)) ?_; conv => whnf)
        | (rw [St.set_same]; conv => whnf) | (rw [St.new_same]; conv => whnf)
        | (rw [St.set_ne _ _ (by first | assumption | omega | (simp only [St.set_n, St.new_n] at *; omega))]; conv => whnf)
        | (rw [St.new_ne _ _ (by first | assumption | omega | (simp only [St.set_n, St.new_n] at *; omega))]; conv => whnf))
      exact next _ ⟨rfl, rfl, rfl, rfl, int_eq hinc, trivial⟩
    | false =>
    conv => whnf
    repeat' (first
      | (refine Bc_t ?_; conv => whnf) | (refine Bc_f ?_; conv => whnf) | (rw [g1]; conv => whnf) | (rw [g2]; conv => whnf) | (rw [g3]; conv => whnf) | (rw [g4]; conv => whnf)
      | (rw [g5]; conv => whnf) | (rw [g6]; conv => whnf) | (rw [g7]; conv => whnf) | (rw [hr]; conv => whnf)
      | (refine And.intro (by first | omega | assumption | (simp only [St.set_n, St.new_n] at *; omega) | (simp; done) | (simp; omega) | (intro _ _; first | assumption | (simp only [St.set_n, St.new_n] at *; omega)) | (intro _; exact trivial) | (intro _; intro _ _; exact trivial) | (intro _; intro j hj; rfl)) ?_; conv => whnf)
      | (rw [St.set_same]; conv => whnf) | (rw [St.new_same]; conv => whnf)
      | (rw [St.set_ne _ _ (by first | assumption | omega | (simp only [St.set_n, St.new_n] at *; omega))]; conv => whnf)
      | (rw [St.new_ne _ _ (by first | assumption | omega | (simp only [St.set_n, St.new_n] at *; omega))]; conv => whnf))
    refine ACallsW.of (zgreat_ok (s.getD (i + n) 0) _ Non) (fun _ _ _ h => h.elim) ?_
    rintro _ σ2 _ ⟨e1, rfl⟩
    have e2 := e1.symm
    subst e2
    cases hgr : isGreat (s.getD (i + n) 0) with
    | true =>
      conv => whnf
      repeat' (first
        | (refine Bc_t ?_; conv => whnf) | (refine Bc_f ?_; conv => whnf) | (rw [g1]; conv => whnf) | (rw [g2]; conv => whnf) | (rw [g3]; conv => whnf) | (rw [g4]; conv => whnf)
        | (rw [g5]; conv => whnf) | (rw [g6]; conv => whnf) | (rw [g7]; conv => whnf) | (rw [hr]; conv => whnf)
        | (refine And.intro (by first | omega | assumption | (simp only [St.set_n, St.new_n] at *; omega) | (simp; done) | (simp; omega) | (intro _ _; first | assumption | (simp only [St.set_n, St.new_n] at *; omega)) | (intro _; exact trivial) | (intro _; intro _ _; exact trivial) | (intro _; intro j hj; rfl)) ?_; conv => whnf)
        | (rw [St.set_same]; conv => whnf) | (rw [St.new_same]; conv => whnf)
        | (rw [St.set_ne _ _ (by first | assumption | omega | (simp only [St.set_n, St.new_n] at *; omega))]; conv => whnf)
        | (rw [St.new_ne _ _ (by first | assumption | omega | (simp only [St.set_n, St.new_n] at *; omega))]; conv => whnf))
      exact next _ ⟨rfl, rfl, rfl, rfl, int_eq hinc, trivial⟩
    | false =>
    conv => whnf
    repeat' (first
      | (refine Bc_t ?_; conv => whnf) | (refine Bc_f ?_; conv => whnf) | (rw [g1]; conv => whnf) | (rw [g2]; conv => whnf) | (rw [g3]; conv => whnf) | (rw [g4]; conv => whnf)
      | (rw [g5]; conv => whnf) | (rw [g6]; conv => whnf) | (rw [g7]; conv => whnf) | (rw [hr]; conv => whnf)
      | (refine And.intro (by first | omega | assumption | (simp only [St.set_n, St.new_n] at *; omega) | (simp; done) | (simp; omega) | (intro _ _; first | assumption | (simp only [St.set_n, St.new_n] at *; omega)) | (intro _; exact trivial) | (intro _; intro _ _; exact trivial) | (intro _; intro j hj; rfl)) ?_; conv => whnf)
      | (rw [St.set_same]; conv => whnf) | (rw [St.new_same]; conv => whnf)
      | (rw [St.set_ne _ _ (by first | assumption | omega | (simp only [St.set_n, St.new_n] at *; omega))]; conv => whnf)
      | (rw [St.new_ne _ _ (by first | assumption | omega | (simp only [St.set_n, St.new_n] at *; omega))]; conv => whnf))
    refine ACallsW.of (zdigit_ok (s.getD (i + n) 0) _ Non) (fun _ _ _ h => h.elim) ?_
    rintro _ σ2 _ ⟨e1, rfl⟩
    have e2 := e1.symm
    subst e2
    cases hdg : isDigit (s.getD (i + n) 0) with
    | true =>
      conv => whnf
      repeat' (first
        | (refine Bc_t ?_; conv => whnf) | (refine Bc_f ?_; conv => whnf) | (rw [g1]; conv => whnf) | (rw [g2]; conv => whnf) | (rw [g3]; conv => whnf) | (rw [g4]; conv => whnf)
        | (rw [g5]; conv => whnf) | (rw [g6]; conv => whnf) | (rw [g7]; conv => whnf) | (rw [hr]; conv => whnf)
        | (refine And.intro (by first | omega | assumption | (simp only [St.set_n, St.new_n] at *; omega) | (simp; done) | (simp; omega) | (intro _ _; first | assumption | (simp only [St.set_n, St.new_n] at *; omega)) | (intro _; exact trivial) | (intro _; intro _ _; exact trivial) | (intro _; intro j hj; rfl)) ?_; conv => whnf)
        | (rw [St.set_same]; conv => whnf) | (rw [St.new_same]; conv => whnf)
        | (rw [St.set_ne _ _ (by first | assumption | omega | (simp only [St.set_n, St.new_n] at *; omega))]; conv => whnf)
        | (rw [St.new_ne _ _ (by first | assumption | omega | (simp only [St.set_n, St.new_n] at *; omega))]; conv => whnf))
      exact next _ ⟨rfl, rfl, rfl, rfl, int_eq hinc, trivial⟩
    | false =>
    rw [hsm, hgr, hdg] at hnm'
    have g2 : (((s.getD ((i + n : Nat) : Int).toNat 0).toNat : Int) == 39) = true := by rw [gc]; exact beq_iff_eq.2 (by have h39 : ((s.getD (i + n) 0).toNat == 39) = true := hnm'; have := beq_iff_eq.1 h39; omega)
    conv => whnf
    repeat' (first
      | (refine Bc_t ?_; conv => whnf) | (refine Bc_f ?_; conv => whnf) | (rw [g1]; conv => whnf) | (rw [g2]; conv => whnf) | (rw [g3]; conv => whnf) | (rw [g4]; conv => whnf)
      | (rw [g5]; conv => whnf) | (rw [g6]; conv => whnf) | (rw [g7]; conv => whnf) | (rw [hr]; conv => whnf)
      | (refine And.intro (by first | omega | assumption | (simp only [St.set_n, St.new_n] at *; omega) | (simp; done) | (simp; omega) | (intro _ _; first | assumption | (simp only [St.set_n, St.new_n] at *; omega)) | (intro _; exact trivial) | (intro _; intro _ _; exact trivial) | (intro _; intro j hj; rfl)) ?_; conv => whnf)
      | (rw [St.set_same]; conv => whnf) | (rw [St.new_same]; conv => whnf)
      | (rw [St.set_ne _ _ (by first | assumption | omega | (simp only [St.set_n, St.new_n] at *; omega))]; conv => whnf)
      | (rw [St.new_ne _ _ (by first | assumption | omega | (simp only [St.set_n, St.new_n] at *; omega))]; conv => whnf))
    exact next _ ⟨rfl, rfl, rfl, rfl, int_eq hinc, trivial⟩
  have hnl : nameLen (s.drop i) = n := by
    refine nameLen_eq n _ hall (by omega) ?_
    rcases Nat.lt_or_ge (i + n) s.length with q | q
    · right; rw [hgn]; exact Bool.eq_false_iff.2 fun w => hgo ⟨q, w⟩
    · left; omega
  have htok := tok_eq (s.drop i) (s.getD i 0) (s.drop (i + 1)) (one_drop hi)
  rw [hnl] at htok
  have hS : (s.drop i).take n = (s.take (i + n)).drop i := by rw [List.drop_take, show i + n - i = n by omega]
  rw [hS] at htok
  have hD : ((s.drop i).drop n).length = s.length - i - n := by rw [List.length_drop, List.length_drop]
  have hn2 : s.length - i - ((s.drop i).drop n).length = n := by omega
  have reach : i + n = s.length ∨ (i + n < s.length ∧ isName (s.getD (i + n) 0) = false) := by
    rcases Nat.lt_or_ge (i + n) s.length with q | q
    · exact .inr ⟨q, Bool.eq_false_iff.2 fun w => hgo ⟨q, w⟩⟩
    · exact .inl (by omega)
  have hgi : s.getD (i : Int).toNat 0 = s.getD i 0 := rfl
  have hr := hw
  rcases reach with hend | ⟨hlt, hnm⟩
  · have g1 : decide (((i + n : Nat) : Int) < s.length) = false := decide_eq_false (by omega)
    conv => whnf
    repeat' (first
      | (refine Bc_t ?_; conv => whnf) | (refine Bc_f ?_; conv => whnf) | (rw [g1]; conv => whnf) | (rw [g2]; conv => whnf) | (rw [g3]; conv => whnf) | (rw [g4]; conv => whnf)
      | (rw [g5]; conv => whnf) | (rw [g6]; conv => whnf) | (rw [g7]; conv => whnf) | (rw [hr]; conv => whnf)
      | (refine And.intro (by first | omega | assumption | (simp only [St.set_n, St.new_n] at *; omega) | (simp; done) | (simp; omega) | (intro _ _; first | assumption | (simp only [St.set_n, St.new_n] at *; omega)) | (intro _; exact trivial) | (intro _; intro _ _; exact trivial) | (intro _; intro j hj; rfl)) ?_; conv => whnf)
      | (rw [St.set_same]; conv => whnf) | (rw [St.new_same]; conv => whnf)
      | (rw [St.set_ne _ _ (by first | assumption | omega | (simp only [St.set_n, St.new_n] at *; omega))]; conv => whnf)
      | (rw [St.new_ne _ _ (by first | assumption | omega | (simp only [St.set_n, St.new_n] at *; omega))]; conv => whnf))
    clear g1
    refine ACallsW.of (zsmall_ok (s.getD i 0) _ Non) (fun _ _ _ h => h.elim) ?_
    rintro _ _ _ ⟨e1, rfl⟩
    have e2 := e1.symm
    subst e2
    have g3 := ho2
    have g4 := ho1
    by_cases hng : (isSmall (s.getD i 0) || isGreat (s.getD i 0)) = true
    · rw [if_pos hng] at htok
      have hres : ∀ k : Nat, k = (if isGreat (s.getD i 0) = true then 4 else if (((s.take (i + n)).drop i) == [95] || isWord ((s.take (i + n)).drop i)) = true then 5 else 3) → oneA s i = .tup [tokA k i 0 ((s.take (i + n)).drop i), .int .i64 n, .int .i64 0] := by
        intro k hk
        unfold oneA
        rw [htok, ← hk]
        show A.tup [tokA k i 0 ((s.take (i + n)).drop i), .int .i64 ((s.length - i - ((s.drop i).drop n).length : Nat)), .int .i64 0] = _
        rw [hn2]
      have hcase : isSmall (s.getD i 0) = true ∨ (isSmall (s.getD i 0) = false ∧ isGreat (s.getD i 0) = true) := by revert hng; cases isSmall (s.getD i 0) <;> cases isGreat (s.getD i 0) <;> simp
      rcases hcase with hsm | ⟨hsm, hgr1⟩
      · rw [hsm]
        conv => whnf
        repeat' (first
          | (refine Bc_t ?_; conv => whnf) | (refine Bc_f ?_; conv => whnf) | (rw [g1]; conv => whnf) | (rw [g2]; conv => whnf) | (rw [g3]; conv => whnf) | (rw [g4]; conv => whnf)
          | (rw [g5]; conv => whnf) | (rw [g6]; conv => whnf) | (rw [g7]; conv => whnf) | (rw [hr]; conv => whnf)
          | (refine And.intro (by first | omega | assumption | (simp only [St.set_n, St.new_n] at *; omega) | (simp; done) | (simp; omega) | (intro _ _; first | assumption | (simp only [St.set_n, St.new_n] at *; omega)) | (intro _; exact trivial) | (intro _; intro _ _; exact trivial) | (intro _; intro j hj; rfl)) ?_; conv => whnf)
          | (rw [St.set_same]; conv => whnf) | (rw [St.new_same]; conv => whnf)
          | (rw [St.set_ne _ _ (by first | assumption | omega | (simp only [St.set_n, St.new_n] at *; omega))]; conv => whnf)
          | (rw [St.new_ne _ _ (by first | assumption | omega | (simp only [St.set_n, St.new_n] at *; omega))]; conv => whnf))
        refine ACallsW.of (zgreat_ok (s.getD i 0) _ Non) (fun _ _ _ h => h.elim) ?_
        rintro _ _ _ ⟨e1, rfl⟩
        have e2 := e1.symm
        subst e2
        cases hgr : isGreat (s.getD i 0) with
        | true =>
          conv => whnf
          repeat' (first
            | (refine Bc_t ?_; conv => whnf) | (refine Bc_f ?_; conv => whnf) | (rw [g1]; conv => whnf) | (rw [g2]; conv => whnf) | (rw [g3]; conv => whnf) | (rw [g4]; conv => whnf)
            | (rw [g5]; conv => whnf) | (rw [g6]; conv => whnf) | (rw [g7]; conv => whnf) | (rw [hr]; conv => whnf)
            | (refine And.intro (by first | omega | assumption | (simp only [St.set_n, St.new_n] at *; omega) | (simp; done) | (simp; omega) | (intro _ _; first | assumption | (simp only [St.set_n, St.new_n] at *; omega)) | (intro _; exact trivial) | (intro _; intro _ _; exact trivial) | (intro _; intro j hj; rfl)) ?_; conv => whnf)
            | (rw [St.set_same]; conv => whnf) | (rw [St.new_same]; conv => whnf)
            | (rw [St.set_ne _ _ (by first | assumption | omega | (simp only [St.set_n, St.new_n] at *; omega))]; conv => whnf)
            | (rw [St.new_ne _ _ (by first | assumption | omega | (simp only [St.set_n, St.new_n] at *; omega))]; conv => whnf))
          exact Fin.of (by rw [hres 4 (by rw [hgr]; rfl)]; rfl)
        | false =>
          conv => whnf
          repeat' (first
            | (refine Bc_t ?_; conv => whnf) | (refine Bc_f ?_; conv => whnf) | (rw [g1]; conv => whnf) | (rw [g2]; conv => whnf) | (rw [g3]; conv => whnf) | (rw [g4]; conv => whnf)
            | (rw [g5]; conv => whnf) | (rw [g6]; conv => whnf) | (rw [g7]; conv => whnf) | (rw [hr]; conv => whnf)
            | (refine And.intro (by first | omega | assumption | (simp only [St.set_n, St.new_n] at *; omega) | (simp; done) | (simp; omega) | (intro _ _; first | assumption | (simp only [St.set_n, St.new_n] at *; omega)) | (intro _; exact trivial) | (intro _; intro _ _; exact trivial) | (intro _; intro j hj; rfl)) ?_; conv => whnf)
            | (rw [St.set_same]; conv => whnf) | (rw [St.new_same]; conv => whnf)
            | (rw [St.set_ne _ _ (by first | assumption | omega | (simp only [St.set_n, St.new_n] at *; omega))]; conv => whnf)
            | (rw [St.new_ne _ _ (by first | assumption | omega | (simp only [St.set_n, St.new_n] at *; omega))]; conv => whnf))
          refine ACallsW.of (rIsWord_ok ((s.take (i + n)).drop i) _ Non) (fun _ _ _ h => h.elim) ?_
          rintro _ _ _ ⟨e1, rfl⟩
          have e2 := e1.symm
          subst e2
          rw [← isWord_iff]
          cases hwd : isWord ((s.take (i + n)).drop i) with
          | true =>
            conv => whnf
            repeat' (first
              | (refine Bc_t ?_; conv => whnf) | (refine Bc_f ?_; conv => whnf) | (rw [g1]; conv => whnf) | (rw [g2]; conv => whnf) | (rw [g3]; conv => whnf) | (rw [g4]; conv => whnf)
              | (rw [g5]; conv => whnf) | (rw [g6]; conv => whnf) | (rw [g7]; conv => whnf) | (rw [hr]; conv => whnf)
              | (refine And.intro (by first | omega | assumption | (simp only [St.set_n, St.new_n] at *; omega) | (simp; done) | (simp; omega) | (intro _ _; first | assumption | (simp only [St.set_n, St.new_n] at *; omega)) | (intro _; exact trivial) | (intro _; intro _ _; exact trivial) | (intro _; intro j hj; rfl)) ?_; conv => whnf)
              | (rw [St.set_same]; conv => whnf) | (rw [St.new_same]; conv => whnf)
              | (rw [St.set_ne _ _ (by first | assumption | omega | (simp only [St.set_n, St.new_n] at *; omega))]; conv => whnf)
              | (rw [St.new_ne _ _ (by first | assumption | omega | (simp only [St.set_n, St.new_n] at *; omega))]; conv => whnf))
            exact Fin.of (by rw [hres 5 (by rw [hgr, hwd]; simp)]; rfl)
          | false =>
            cases h95 : (((s.take (i + n)).drop i) == [95]) with
            | true =>
              have g5 : (List.drop (i : Int).toNat (List.take ((i + n : Nat) : Int).toNat s) == [95]) = true := h95
              conv => whnf
              repeat' (first
                | (refine Bc_t ?_; conv => whnf) | (refine Bc_f ?_; conv => whnf) | (rw [g1]; conv => whnf) | (rw [g2]; conv => whnf) | (rw [g3]; conv => whnf) | (rw [g4]; conv => whnf)
                | (rw [g5]; conv => whnf) | (rw [g6]; conv => whnf) | (rw [g7]; conv => whnf) | (rw [hr]; conv => whnf)
                | (refine And.intro (by first | omega | assumption | (simp only [St.set_n, St.new_n] at *; omega) | (simp; done) | (simp; omega) | (intro _ _; first | assumption | (simp only [St.set_n, St.new_n] at *; omega)) | (intro _; exact trivial) | (intro _; intro _ _; exact trivial) | (intro _; intro j hj; rfl)) ?_; conv => whnf)
                | (rw [St.set_same]; conv => whnf) | (rw [St.new_same]; conv => whnf)
                | (rw [St.set_ne _ _ (by first | assumption | omega | (simp only [St.set_n, St.new_n] at *; omega))]; conv => whnf)
                | (rw [St.new_ne _ _ (by first | assumption | omega | (simp only [St.set_n, St.new_n] at *; omega))]; conv => whnf))
              exact Fin.of (by rw [hres 5 (by rw [hgr, hwd, h95]; rfl)]; rfl)
            | false =>
              have g5 : (List.drop (i : Int).toNat (List.take ((i + n : Nat) : Int).toNat s) == [95]) = false := h95
              conv => whnf
              repeat' (first
                | (refine Bc_t ?_; conv => whnf) | (refine Bc_f ?_; conv => whnf) | (rw [g1]; conv => whnf) | (rw [g2]; conv => whnf) | (rw [g3]; conv => whnf) | (rw [g4]; conv => whnf)
                | (rw [g5]; conv => whnf) | (rw [g6]; conv => whnf) | (rw [g7]; conv => whnf) | (rw [hr]; conv => whnf)
                | (refine And.intro (by first | omega | assumption | (simp only [St.set_n, St.new_n] at *; omega) | (simp; done) | (simp; omega) | (intro _ _; first | assumption | (simp only [St.set_n, St.new_n] at *; omega)) | (intro _; exact trivial) | (intro _; intro _ _; exact trivial) | (intro _; intro j hj; rfl)) ?_; conv => whnf)
                | (rw [St.set_same]; conv => whnf) | (rw [St.new_same]; conv => whnf)
                | (rw [St.set_ne _ _ (by first | assumption | omega | (simp only [St.set_n, St.new_n] at *; omega))]; conv => whnf)
                | (rw [St.new_ne _ _ (by first | assumption | omega | (simp only [St.set_n, St.new_n] at *; omega))]; conv => whnf))
              exact Fin.of (by rw [hres 3 (by rw [hgr, hwd, h95]; rfl)]; rfl)
      · rw [hsm]
        conv => whnf
        repeat' (first
          | (refine Bc_t ?_; conv => whnf) | (refine Bc_f ?_; conv => whnf) | (rw [g1]; conv => whnf) | (rw [g2]; conv => whnf) | (rw [g3]; conv => whnf) | (rw [g4]; conv => whnf)
          | (rw [g5]; conv => whnf) | (rw [g6]; conv => whnf) | (rw [g7]; conv => whnf) | (rw [hr]; conv => whnf)
          | (refine And.intro (by first | omega | assumption | (simp only [St.set_n, St.new_n] at *; omega) | (simp; done) | (simp; omega) | (intro _ _; first | assumption | (simp only [St.set_n, St.new_n] at *; omega)) | (intro _; exact trivial) | (intro _; intro _ _; exact trivial) | (intro _; intro j hj; rfl)) ?_; conv => whnf)
          | (rw [St.set_same]; conv => whnf) | (rw [St.new_same]; conv => whnf)
          | (rw [St.set_ne _ _ (by first | assumption | omega | (simp only [St.set_n, St.new_n] at *; omega))]; conv => whnf)
          | (rw [St.new_ne _ _ (by first | assumption | omega | (simp only [St.set_n, St.new_n] at *; omega))]; conv => whnf))
        refine ACallsW.of (zgreat_ok (s.getD i 0) _ Non) (fun _ _ _ h => h.elim) ?_
        rintro _ _ _ ⟨e1, rfl⟩
        have e2 := e1.symm
        subst e2
        rw [hgr1]
        conv => whnf
        repeat' (first
          | (refine Bc_t ?_; conv => whnf) | (refine Bc_f ?_; conv => whnf) | (rw [g1]; conv => whnf) | (rw [g2]; conv => whnf) | (rw [g3]; conv => whnf) | (rw [g4]; conv => whnf)
          | (rw [g5]; conv => whnf) | (rw [g6]; conv => whnf) | (rw [g7]; conv => whnf) | (rw [hr]; conv => whnf)
          | (refine And.intro (by first | omega | assumption | (simp only [St.set_n, St.new_n] at *; omega) | (simp; done) | (simp; omega) | (intro _ _; first | assumption | (simp only [St.set_n, St.new_n] at *; omega)) | (intro _; exact trivial) | (intro _; intro _ _; exact trivial) | (intro _; intro j hj; rfl)) ?_; conv => whnf)
          | (rw [St.set_same]; conv => whnf) | (rw [St.new_same]; conv => whnf)
          | (rw [St.set_ne _ _ (by first | assumption | omega | (simp only [St.set_n, St.new_n] at *; omega))]; conv => whnf)
          | (rw [St.new_ne _ _ (by first | assumption | omega | (simp only [St.set_n, St.new_n] at *; omega))]; conv => whnf))
        refine ACallsW.of (zgreat_ok (s.getD i 0) _ Non) (fun _ _ _ h => h.elim) ?_
        rintro _ _ _ ⟨e1, rfl⟩
        have e2 := e1.symm
        subst e2
        cases hgr : isGreat (s.getD i 0) with
        | true =>
          conv => whnf
          repeat' (first
            | (refine Bc_t ?_; conv => whnf) | (refine Bc_f ?_; conv => whnf) | (rw [g1]; conv => whnf) | (rw [g2]; conv => whnf) | (rw [g3]; conv => whnf) | (rw [g4]; conv => whnf)
            | (rw [g5]; conv => whnf) | (rw [g6]; conv => whnf) | (rw [g7]; conv => whnf) | (rw [hr]; conv => whnf)
            | (refine And.intro (by first | omega | assumption | (simp only [St.set_n, St.new_n] at *; omega) | (simp; done) | (simp; omega) | (intro _ _; first | assumption | (simp only [St.set_n, St.new_n] at *; omega)) | (intro _; exact trivial) | (intro _; intro _ _; exact trivial) | (intro _; intro j hj; rfl)) ?_; conv => whnf)
            | (rw [St.set_same]; conv => whnf) | (rw [St.new_same]; conv => whnf)
            | (rw [St.set_ne _ _ (by first | assumption | omega | (simp only [St.set_n, St.new_n] at *; omega))]; conv => whnf)
            | (rw [St.new_ne _ _ (by first | assumption | omega | (simp only [St.set_n, St.new_n] at *; omega))]; conv => whnf))
          exact Fin.of (by rw [hres 4 (by rw [hgr]; rfl)]; rfl)
        | false =>
          conv => whnf
          repeat' (first
            | (refine Bc_t ?_; conv => whnf) | (refine Bc_f ?_; conv => whnf) | (rw [g1]; conv => whnf) | (rw [g2]; conv => whnf) | (rw [g3]; conv => whnf) | (rw [g4]; conv => whnf)
            | (rw [g5]; conv => whnf) | (rw [g6]; conv => whnf) | (rw [g7]; conv => whnf) | (rw [hr]; conv => whnf)
            | (refine And.intro (by first | omega | assumption | (simp only [St.set_n, St.new_n] at *; omega) | (simp; done) | (simp; omega) | (intro _ _; first | assumption | (simp only [St.set_n, St.new_n] at *; omega)) | (intro _; exact trivial) | (intro _; intro _ _; exact trivial) | (intro _; intro j hj; rfl)) ?_; conv => whnf)
            | (rw [St.set_same]; conv => whnf) | (rw [St.new_same]; conv => whnf)
            | (rw [St.set_ne _ _ (by first | assumption | omega | (simp only [St.set_n, St.new_n] at *; omega))]; conv => whnf)
            | (rw [St.new_ne _ _ (by first | assumption | omega | (simp only [St.set_n, St.new_n] at *; omega))]; conv => whnf))
          refine ACallsW.of (rIsWord_ok ((s.take (i + n)).drop i) _ Non) (fun _ _ _ h => h.elim) ?_
          rintro _ _ _ ⟨e1, rfl⟩
          have e2 := e1.symm
          subst e2
          rw [← isWord_iff]
          cases hwd : isWord ((s.take (i + n)).drop i) with
          | true =>
            conv => whnf
            repeat' (first
              | (refine Bc_t ?_; conv => whnf) | (refine Bc_f ?_; conv => whnf) | (rw [g1]; conv => whnf) | (rw [g2]; conv => whnf) | (rw [g3]; conv => whnf) | (rw [g4]; conv => whnf)
              | (rw [g5]; conv => whnf) | (rw [g6]; conv => whnf) | (rw [g7]; conv => whnf) | (rw [hr]; conv => whnf)
              | (refine And.intro (by first | omega | assumption | (simp only [St.set_n, St.new_n] at *; omega) | (simp; done) | (simp; omega) | (intro _ _; first | assumption | (simp only [St.set_n, St.new_n] at *; omega)) | (intro _; exact trivial) | (intro _; intro _ _; exact trivial) | (intro _; intro j hj; rfl)) ?_; conv => whnf)
              | (rw [St.set_same]; conv => whnf) | (rw [St.new_same]; conv => whnf)
              | (rw [St.set_ne _ _ (by first | assumption | omega | (simp only [St.set_n, St.new_n] at *; omega))]; conv => whnf)
              | (rw [St.new_ne _ _ (by first | assumption | omega | (simp only [St.set_n, St.new_n] at *; omega))]; conv => whnf))
            exact Fin.of (by rw [hres 5 (by rw [hgr, hwd]; simp)]; rfl)
          | false =>
            cases h95 : (((s.take (i + n)).drop i) == [95]) with
            | true =>
              have g5 : (List.drop (i : Int).toNat (List.take ((i + n : Nat) : Int).toNat s) == [95]) = true := h95
              conv => whnf
              repeat' (first
                | (refine Bc_t ?_; conv => whnf) | (refine Bc_f ?_; conv => whnf) | (rw [g1]; conv => whnf) | (rw [g2]; conv => whnf) | (rw [g3]; conv => whnf) | (rw [g4]; conv => whnf)
                | (rw [g5]; conv => whnf) | (rw [g6]; conv => whnf) | (rw [g7]; conv => whnf) | (rw [hr]; conv => whnf)
                | (refine And.intro (by first | omega | assumption | (simp only [St.set_n, St.new_n] at *; omega) | (simp; done) | (simp; omega) | (intro _ _; first | assumption | (simp only [St.set_n, St.new_n] at *; omega)) | (intro _; exact trivial) | (intro _; intro _ _; exact trivial) | (intro _; intro j hj; rfl)) ?_; conv => whnf)
                | (rw [St.set_same]; conv => whnf) | (rw [St.new_same]; conv => whnf)
                | (rw [St.set_ne _ _ (by first | assumption | omega | (simp only [St.set_n, St.new_n] at *; omega))]; conv => whnf)
                | (rw [St.new_ne _ _ (by first | assumption | omega | (simp only [St.set_n, St.new_n] at *; omega))]; conv => whnf))
              exact Fin.of (by rw [hres 5 (by rw [hgr, hwd, h95]; rfl)]; rfl)
            | false =>
              have g5 : (List.drop (i : Int).toNat (List.take ((i + n : Nat) : Int).toNat s) == [95]) = false := h95
              conv => whnf
              repeat' (first
                | (refine Bc_t ?_; conv => whnf) | (refine Bc_f ?_; conv => whnf) | (rw [g1]; conv => whnf) | (rw [g2]; conv => whnf) | (rw [g3]; conv => whnf) | (rw [g4]; conv => whnf)
                | (rw [g5]; conv => whnf) | (rw [g6]; conv => whnf) | (rw [g7]; conv => whnf) | (rw [hr]; conv => whnf)
                | (refine And.intro (by first | omega | assumption | (simp only [St.set_n, St.new_n] at *; omega) | (simp; done) | (simp; omega) | (intro _ _; first | assumption | (simp only [St.set_n, St.new_n] at *; omega)) | (intro _; exact trivial) | (intro _; intro _ _; exact trivial) | (intro _; intro j hj; rfl)) ?_; conv => whnf)
                | (rw [St.set_same]; conv => whnf) | (rw [St.new_same]; conv => whnf)
                | (rw [St.set_ne _ _ (by first | assumption | omega | (simp only [St.set_n, St.new_n] at *; omega))]; conv => whnf)
                | (rw [St.new_ne _ _ (by first | assumption | omega | (simp only [St.set_n, St.new_n] at *; omega))]; conv => whnf))
              exact Fin.of (by rw [hres 3 (by rw [hgr, hwd, h95]; rfl)]; rfl)
    · rw [if_neg hng] at htok
      obtain ⟨hsm, hgr⟩ : isSmall (s.getD i 0) = false ∧ isGreat (s.getD i 0) = false := by revert hng; cases isSmall (s.getD i 0) <;> cases isGreat (s.getD i 0) <;> simp
      rw [hsm]
      conv => whnf
      repeat' (first
        | (refine Bc_t ?_; conv => whnf) | (refine Bc_f ?_; conv => whnf) | (rw [g1]; conv => whnf) | (rw [g2]; conv => whnf) | (rw [g3]; conv => whnf) | (rw [g4]; conv => whnf)
        | (rw [g5]; conv => whnf) | (rw [g6]; conv => whnf) | (rw [g7]; conv => whnf) | (rw [hr]; conv => whnf)
        | (refine And.intro (by first | omega | assumption | (simp only [St.set_n, St.new_n] at *; omega) | (simp; done) | (simp; omega) | (intro _ _; first | assumption | (simp only [St.set_n, St.new_n] at *; omega)) | (intro _; exact trivial) | (intro _; intro _ _; exact trivial) | (intro _; intro j hj; rfl)) ?_; conv => whnf)
        | (rw [St.set_same]; conv => whnf) | (rw [St.new_same]; conv => whnf)
        | (rw [St.set_ne _ _ (by first | assumption | omega | (simp only [St.set_n, St.new_n] at *; omega))]; conv => whnf)
        | (rw [St.new_ne _ _ (by first | assumption | omega | (simp only [St.set_n, St.new_n] at *; omega))]; conv => whnf))
      refine ACallsW.of (zgreat_ok (s.getD i 0) _ Non) (fun _ _ _ h => h.elim) ?_
      rintro _ _ _ ⟨e1, rfl⟩
      have e2 := e1.symm
      subst e2
      rw [hgr]
      conv => whnf
      repeat' (first
        | (refine Bc_t ?_; conv => whnf) | (refine Bc_f ?_; conv => whnf) | (rw [g1]; conv => whnf) | (rw [g2]; conv => whnf) | (rw [g3]; conv => whnf) | (rw [g4]; conv => whnf)
        | (rw [g5]; conv => whnf) | (rw [g6]; conv => whnf) | (rw [g7]; conv => whnf) | (rw [hr]; conv => whnf)
        | (refine And.intro (by first | omega | assumption | (simp only [St.set_n, St.new_n] at *; omega) | (simp; done) | (simp; omega) | (intro _ _; first | assumption | (simp only [St.set_n, St.new_n] at *; omega)) | (intro _; exact trivial) | (intro _; intro _ _; exact trivial) | (intro _; intro j hj; rfl)) ?_; conv => whnf)
        | (rw [St.set_same]; conv => whnf) | (rw [St.new_same]; conv => whnf)
        | (rw [St.set_ne _ _ (by first | assumption | omega | (simp only [St.set_n, St.new_n] at *; omega))]; conv => whnf)
        | (rw [St.new_ne _ _ (by first | assumption | omega | (simp only [St.set_n, St.new_n] at *; omega))]; conv => whnf))
      refine ACallsW.of (zdigit_ok (s.getD i 0) _ Non) (fun _ _ _ h => h.elim) ?_
      rintro _ _ _ ⟨e1, rfl⟩
      have e2 := e1.symm
      subst e2
      cases hdg : isDigit (s.getD i 0) with
      | true =>
        rw [if_pos hdg] at htok
        conv => whnf
        repeat' (first
          | (refine Bc_t ?_; conv => whnf) | (refine Bc_f ?_; conv => whnf) | (rw [g1]; conv => whnf) | (rw [g2]; conv => whnf) | (rw [g3]; conv => whnf) | (rw [g4]; conv => whnf)
          | (rw [g5]; conv => whnf) | (rw [g6]; conv => whnf) | (rw [g7]; conv => whnf) | (rw [hr]; conv => whnf)
          | (refine And.intro (by first | omega | assumption | (simp only [St.set_n, St.new_n] at *; omega) | (simp; done) | (simp; omega) | (intro _ _; first | assumption | (simp only [St.set_n, St.new_n] at *; omega)) | (intro _; exact trivial) | (intro _; intro _ _; exact trivial) | (intro _; intro j hj; rfl)) ?_; conv => whnf)
          | (rw [St.set_same]; conv => whnf) | (rw [St.new_same]; conv => whnf)
          | (rw [St.set_ne _ _ (by first | assumption | omega | (simp only [St.set_n, St.new_n] at *; omega))]; conv => whnf)
          | (rw [St.new_ne _ _ (by first | assumption | omega | (simp only [St.set_n, St.new_n] at *; omega))]; conv => whnf))
        have hne : ((s.take (i + n)).drop i) ≠ [] := by intro q; have := congrArg List.length q; rw [← hS, List.length_take, hdl] at this; have := nameLen_pos (c := s.getD i 0) (r := s.drop (i + 1)) (by unfold isName; rw [hdg]; simp); rw [← one_drop hi, hnl] at this; simp at *; omega
        have hh : ((s.take (i + n)).drop i).getD 0 0 = s.getD i 0 := by have h1 : 1 ≤ n := (by have := nameLen_pos (c := s.getD i 0) (r := s.drop (i + 1)) (by unfold isName; rw [hdg]; simp); rw [← one_drop hi, hnl] at this; exact this); rw [← hS, one_drop hi]; obtain ⟨n0, rfl⟩ : ∃ n0, n = n0 + 1 := ⟨n - 1, by omega⟩; rfl
        refine ACallsW.of (zparse_ok ((s.take (i + n)).drop i) (by rw [List.length_drop, List.length_take]; omega) hne (by rw [hh]; exact hdg) _ Non) (fun _ _ _ h => h.elim) ?_
        rintro _ _ _ ⟨e1, rfl⟩
        have e2 := e1.symm
        subst e2
        cases hnum : numOf ((s.take (i + n)).drop i) with
        | ok v =>
          have hv := numOf_ok hnum
          have e3 : parseA ((s.take (i + n)).drop i) = .tup [.int .u64 (2 * (v : Int) + 1), .int .i64 0] := by rw [parseA, hnum]
          rw [e3]
          rw [hnum] at htok
          conv => whnf
          repeat' (first
            | (refine Bc_t ?_; conv => whnf) | (refine Bc_f ?_; conv => whnf) | (rw [g1]; conv => whnf) | (rw [g2]; conv => whnf) | (rw [g3]; conv => whnf) | (rw [g4]; conv => whnf)
            | (rw [g5]; conv => whnf) | (rw [g6]; conv => whnf) | (rw [g7]; conv => whnf) | (rw [hr]; conv => whnf)
            | (refine And.intro (by first | omega | assumption | (simp only [St.set_n, St.new_n] at *; omega) | (simp; done) | (simp; omega) | (intro _ _; first | assumption | (simp only [St.set_n, St.new_n] at *; omega)) | (intro _; exact trivial) | (intro _; intro _ _; exact trivial) | (intro _; intro j hj; rfl)) ?_; conv => whnf)
            | (rw [St.set_same]; conv => whnf) | (rw [St.new_same]; conv => whnf)
            | (rw [St.set_ne _ _ (by first | assumption | omega | (simp only [St.set_n, St.new_n] at *; omega))]; conv => whnf)
            | (rw [St.new_ne _ _ (by first | assumption | omega | (simp only [St.set_n, St.new_n] at *; omega))]; conv => whnf))
          refine ACallsW.of (rnum_ok v (by omega) (by omega) _ Non) (fun _ _ _ h => h.elim) ?_
          rintro _ _ _ ⟨e1, rfl⟩
          have e2 := e1.symm
          subst e2
          rw [if_pos (by omega)]
          conv => whnf
          repeat' (first
            | (refine Bc_t ?_; conv => whnf) | (refine Bc_f ?_; conv => whnf) | (rw [g1]; conv => whnf) | (rw [g2]; conv => whnf) | (rw [g3]; conv => whnf) | (rw [g4]; conv => whnf)
            | (rw [g5]; conv => whnf) | (rw [g6]; conv => whnf) | (rw [g7]; conv => whnf) | (rw [hr]; conv => whnf)
            | (refine And.intro (by first | omega | assumption | (simp only [St.set_n, St.new_n] at *; omega) | (simp; done) | (simp; omega) | (intro _ _; first | assumption | (simp only [St.set_n, St.new_n] at *; omega)) | (intro _; exact trivial) | (intro _; intro _ _; exact trivial) | (intro _; intro j hj; rfl)) ?_; conv => whnf)
            | (rw [St.set_same]; conv => whnf) | (rw [St.new_same]; conv => whnf)
            | (rw [St.set_ne _ _ (by first | assumption | omega | (simp only [St.set_n, St.new_n] at *; omega))]; conv => whnf)
            | (rw [St.new_ne _ _ (by first | assumption | omega | (simp only [St.set_n, St.new_n] at *; omega))]; conv => whnf))
          exact Fin.of (by rw [show oneA s i = .tup [tokA 1 i v [], .int .i64 n, .int .i64 0] by unfold oneA; rw [htok]; show A.tup [tokA 1 i v [], .int .i64 ((s.length - i - ((s.drop i).drop n).length : Nat)), .int .i64 0] = _; rw [hn2]]; rfl)
        | error k =>
          have e3 : parseA ((s.take (i + n)).drop i) = .tup [.int .u64 0, .int .i64 k] := by rw [parseA, hnum]
          rw [e3]
          rw [hnum] at htok
          rcases numOf_err hnum with rfl | rfl
          · conv => whnf
            repeat' (first
              | (refine Bc_t ?_; conv => whnf) | (refine Bc_f ?_; conv => whnf) | (rw [g1]; conv => whnf) | (rw [g2]; conv => whnf) | (rw [g3]; conv => whnf) | (rw [g4]; conv => whnf)
              | (rw [g5]; conv => whnf) | (rw [g6]; conv => whnf) | (rw [g7]; conv => whnf) | (rw [hr]; conv => whnf)
              | (refine And.intro (by first | omega | assumption | (simp only [St.set_n, St.new_n] at *; omega) | (simp; done) | (simp; omega) | (intro _ _; first | assumption | (simp only [St.set_n, St.new_n] at *; omega)) | (intro _; exact trivial) | (intro _; intro _ _; exact trivial) | (intro _; intro j hj; rfl)) ?_; conv => whnf)
              | (rw [St.set_same]; conv => whnf) | (rw [St.new_same]; conv => whnf)
              | (rw [St.set_ne _ _ (by first | assumption | omega | (simp only [St.set_n, St.new_n] at *; omega))]; conv => whnf)
              | (rw [St.new_ne _ _ (by first | assumption | omega | (simp only [St.set_n, St.new_n] at *; omega))]; conv => whnf))
            exact Fin.of (by rw [show oneA s i = .tup [tokA 0 i 0 [], .int .i64 0, .int .i64 20] by unfold oneA; rw [htok]; rfl]; rfl)
          · conv => whnf
            repeat' (first
              | (refine Bc_t ?_; conv => whnf) | (refine Bc_f ?_; conv => whnf) | (rw [g1]; conv => whnf) | (rw [g2]; conv => whnf) | (rw [g3]; conv => whnf) | (rw [g4]; conv => whnf)
              | (rw [g5]; conv => whnf) | (rw [g6]; conv => whnf) | (rw [g7]; conv => whnf) | (rw [hr]; conv => whnf)
              | (refine And.intro (by first | omega | assumption | (simp only [St.set_n, St.new_n] at *; omega) | (simp; done) | (simp; omega) | (intro _ _; first | assumption | (simp only [St.set_n, St.new_n] at *; omega)) | (intro _; exact trivial) | (intro _; intro _ _; exact trivial) | (intro _; intro j hj; rfl)) ?_; conv => whnf)
              | (rw [St.set_same]; conv => whnf) | (rw [St.new_same]; conv => whnf)
              | (rw [St.set_ne _ _ (by first | assumption | omega | (simp only [St.set_n, St.new_n] at *; omega))]; conv => whnf)
              | (rw [St.new_ne _ _ (by first | assumption | omega | (simp only [St.set_n, St.new_n] at *; omega))]; conv => whnf))
            exact Fin.of (by rw [show oneA s i = .tup [tokA 0 i 0 [], .int .i64 0, .int .i64 2] by unfold oneA; rw [htok]; rfl]; rfl)
      | false =>
        rw [if_neg (by rw [hdg]; simp)] at htok
        cases h34 : ((s.getD i 0) == 34) with
        | true =>
          rw [if_pos h34] at htok
          have g5 : (((s.getD (i : Int).toNat 0).toNat : Int) == 34) = true := by rw [hgi]; exact (u8_beqz (s.getD i 0) 34).trans h34
          conv => whnf
          repeat' (first
            | (refine Bc_t ?_; conv => whnf) | (refine Bc_f ?_; conv => whnf) | (rw [g1]; conv => whnf) | (rw [g2]; conv => whnf) | (rw [g3]; conv => whnf) | (rw [g4]; conv => whnf)
            | (rw [g5]; conv => whnf) | (rw [g6]; conv => whnf) | (rw [g7]; conv => whnf) | (rw [hr]; conv => whnf)
            | (refine And.intro (by first | omega | assumption | (simp only [St.set_n, St.new_n] at *; omega) | (simp; done) | (simp; omega) | (intro _ _; first | assumption | (simp only [St.set_n, St.new_n] at *; omega)) | (intro _; exact trivial) | (intro _; intro _ _; exact trivial) | (intro _; intro j hj; rfl)) ?_; conv => whnf)
            | (rw [St.set_same]; conv => whnf) | (rw [St.new_same]; conv => whnf)
            | (rw [St.set_ne _ _ (by first | assumption | omega | (simp only [St.set_n, St.new_n] at *; omega))]; conv => whnf)
            | (rw [St.new_ne _ _ (by first | assumption | omega | (simp only [St.set_n, St.new_n] at *; omega))]; conv => whnf))
          refine ACallsW.of (ztext_ok s i (by omega) hi _ Non) (fun _ _ _ h => h.elim) ?_
          rintro _ _ _ ⟨e1, rfl⟩
          have e2 := e1.symm
          subst e2
          cases ht : txt 0 0 (s.drop (i + 1)) with
          | none =>
            have e3 : textA s i = .tup [.str [], .int .i64 0] := by rw [textA, ht]
            rw [e3]
            rw [ht] at htok
            conv => whnf
            repeat' (first
              | (refine Bc_t ?_; conv => whnf) | (refine Bc_f ?_; conv => whnf) | (rw [g1]; conv => whnf) | (rw [g2]; conv => whnf) | (rw [g3]; conv => whnf) | (rw [g4]; conv => whnf)
              | (rw [g5]; conv => whnf) | (rw [g6]; conv => whnf) | (rw [g7]; conv => whnf) | (rw [hr]; conv => whnf)
              | (refine And.intro (by first | omega | assumption | (simp only [St.set_n, St.new_n] at *; omega) | (simp; done) | (simp; omega) | (intro _ _; first | assumption | (simp only [St.set_n, St.new_n] at *; omega)) | (intro _; exact trivial) | (intro _; intro _ _; exact trivial) | (intro _; intro j hj; rfl)) ?_; conv => whnf)
              | (rw [St.set_same]; conv => whnf) | (rw [St.new_same]; conv => whnf)
              | (rw [St.set_ne _ _ (by first | assumption | omega | (simp only [St.set_n, St.new_n] at *; omega))]; conv => whnf)
              | (rw [St.new_ne _ _ (by first | assumption | omega | (simp only [St.set_n, St.new_n] at *; omega))]; conv => whnf))
            exact Fin.of (by rw [show oneA s i = .tup [tokA 0 i 0 [], .int .i64 0, .int .i64 20] by unfold oneA; rw [htok]; rfl]; rfl)
          | some p =>
            obtain ⟨v, l⟩ := p
            obtain ⟨f1, f2⟩ := txt_suf _ _ _ _ _ ht
            have f3 := f1.length_le
            rw [List.length_drop] at f2
            have e3 : textA s i = .tup [.str v, .int .i64 ((s.length - i - l.length : Nat))] := by rw [textA, ht]; show A.tup [.str v, .int .i64 ((s.length - l.length - i : Nat))] = _; rw [show s.length - l.length - i = s.length - i - l.length by omega]
            rw [e3]
            rw [ht] at htok
            generalize hnn : s.length - i - l.length = nn
            clear g5
            have g5 : ((nn : Int) == 0) = false := beq_eq_false_iff_ne.2 (by omega)
            conv => whnf
            repeat' (first
              | (refine Bc_t ?_; conv => whnf) | (refine Bc_f ?_; conv => whnf) | (rw [g1]; conv => whnf) | (rw [g2]; conv => whnf) | (rw [g3]; conv => whnf) | (rw [g4]; conv => whnf)
              | (rw [g5]; conv => whnf) | (rw [g6]; conv => whnf) | (rw [g7]; conv => whnf) | (rw [hr]; conv => whnf)
              | (refine And.intro (by first | omega | assumption | (simp only [St.set_n, St.new_n] at *; omega) | (simp; done) | (simp; omega) | (intro _ _; first | assumption | (simp only [St.set_n, St.new_n] at *; omega)) | (intro _; exact trivial) | (intro _; intro _ _; exact trivial) | (intro _; intro j hj; rfl)) ?_; conv => whnf)
              | (rw [St.set_same]; conv => whnf) | (rw [St.new_same]; conv => whnf)
              | (rw [St.set_ne _ _ (by first | assumption | omega | (simp only [St.set_n, St.new_n] at *; omega))]; conv => whnf)
              | (rw [St.new_ne _ _ (by first | assumption | omega | (simp only [St.set_n, St.new_n] at *; omega))]; conv => whnf))
            exact Fin.of (by rw [show oneA s i = .tup [tokA 2 i 0 v, .int .i64 nn, .int .i64 0] by unfold oneA; rw [htok]; show A.tup [tokA 2 i 0 v, .int .i64 ((s.length - i - l.length : Nat)), .int .i64 0] = _; rw [hnn]]; rfl)
        | false =>
          rw [if_neg (by rw [h34]; simp)] at htok
          have g5 : (((s.getD (i : Int).toNat 0).toNat : Int) == 34) = false := by rw [hgi]; exact (u8_beqz (s.getD i 0) 34).trans h34
          conv => whnf
          repeat' (first
            | (refine Bc_t ?_; conv => whnf) | (refine Bc_f ?_; conv => whnf) | (rw [g1]; conv => whnf) | (rw [g2]; conv => whnf) | (rw [g3]; conv => whnf) | (rw [g4]; conv => whnf)
            | (rw [g5]; conv => whnf) | (rw [g6]; conv => whnf) | (rw [g7]; conv => whnf) | (rw [hr]; conv => whnf)
            | (refine And.intro (by first | omega | assumption | (simp only [St.set_n, St.new_n] at *; omega) | (simp; done) | (simp; omega) | (intro _ _; first | assumption | (simp only [St.set_n, St.new_n] at *; omega)) | (intro _; exact trivial) | (intro _; intro _ _; exact trivial) | (intro _; intro j hj; rfl)) ?_; conv => whnf)
            | (rw [St.set_same]; conv => whnf) | (rw [St.new_same]; conv => whnf)
            | (rw [St.set_ne _ _ (by first | assumption | omega | (simp only [St.set_n, St.new_n] at *; omega))]; conv => whnf)
            | (rw [St.new_ne _ _ (by first | assumption | omega | (simp only [St.set_n, St.new_n] at *; omega))]; conv => whnf))
          refine ACallsW.of (zsigns_ok _ Non) (fun _ _ _ h => h.elim) ?_
          rintro _ _ _ ⟨e1, rfl⟩
          have e2 := e1.symm
          subst e2
          have hlenR : signR.length = 33 := by decide +kernel
          have hfirst : ∀ k x, signR[k]? = some x → x <+: s.drop i → (∀ y ∈ signR.take k, ¬ y <+: s.drop i) → signOf (s.drop i) = x := fun k x a b c => signR_first a b c
          have hnone : (∀ y ∈ signR, ¬ y <+: s.drop i) → signOf (s.drop i) = [] := signR_none
          have hsml := signR_small
          generalize signR = L at hlenR hfirst hnone hsml ⊢
          conv => whnf
          repeat' (first
            | (refine Bc_t ?_; conv => whnf) | (refine Bc_f ?_; conv => whnf) | (rw [g1]; conv => whnf) | (rw [g2]; conv => whnf) | (rw [g3]; conv => whnf) | (rw [g4]; conv => whnf)
            | (rw [g5]; conv => whnf) | (rw [g6]; conv => whnf) | (rw [g7]; conv => whnf) | (rw [hr]; conv => whnf)
            | (refine And.intro (by first | omega | assumption | (simp only [St.set_n, St.new_n] at *; omega) | (simp; done) | (simp; omega) | (intro _ _; first | assumption | (simp only [St.set_n, St.new_n] at *; omega)) | (intro _; exact trivial) | (intro _; intro _ _; exact trivial) | (intro _; intro j hj; rfl)) ?_; conv => whnf)
            | (rw [St.set_same]; conv => whnf) | (rw [St.new_same]; conv => whnf)
            | (rw [St.set_ne _ _ (by first | assumption | omega | (simp only [St.set_n, St.new_n] at *; omega))]; conv => whnf)
            | (rw [St.new_ne _ _ (by first | assumption | omega | (simp only [St.set_n, St.new_n] at *; omega))]; conv => whnf))
          refine ⟨fun k env σ2 => ∃ j : Nat, k = 33 - j ∧ j ≤ 33 ∧ (∀ y ∈ L.take j, ¬ y <+: s.drop i) ∧ σ2 = σ1 ∧ env = [(0, .str s), (1, .int .i64 i), (4, .ptr σ.n 0), (7, .ptr (σ.n + 1) 0), (14, .sl .full 1 (L.map A.str)), (15, .int .i64 j)], _,
            [(0, .str s), (1, .int .i64 i), (4, .ptr σ.n 0), (7, .ptr (σ.n + 1) 0), (14, .sl .full 1 (L.map A.str)), (15, .int .i64 0)], ⟨rfl, rfl, rfl, rfl, rfl, rfl, trivial⟩, ⟨0, rfl, by omega, fun y hy => (by simp at hy), rfl, rfl⟩, ?_⟩
          rintro k env σ2 ⟨j, rfl, hj, hno, rfl, rfl⟩
          clear hr
          by_cases hj33 : j < 33
          · obtain ⟨x, hx⟩ : ∃ x, L[j]? = some x := ⟨_, List.getElem?_eq_getElem (by omega)⟩
            have hxm := hsml x (List.mem_of_getElem? hx)
            have g6 : (L.map A.str)[(j : Int).toNat]? = some (A.str x) := by show (L.map A.str)[j]? = _; rw [List.getElem?_map, hx]; rfl
            have g7 : decide ((j : Int) < (L.map A.str).length) = true := by rw [List.length_map, hlenR]; exact decide_eq_true (by omega)
            conv => whnf
            repeat' (first
              | (refine Bc_t ?_; conv => whnf) | (refine Bc_f ?_; conv => whnf) | (rw [g1]; conv => whnf) | (rw [g2]; conv => whnf) | (rw [g3]; conv => whnf) | (rw [g4]; conv => whnf)
              | (rw [g5]; conv => whnf) | (rw [g6]; conv => whnf) | (rw [g7]; conv => whnf) | (rw [hr]; conv => whnf)
              | (refine And.intro (by first | omega | assumption | (simp only [St.set_n, St.new_n] at *; omega) | (simp; done) | (simp; omega) | (intro _ _; first | assumption | (simp only [St.set_n, St.new_n] at *; omega)) | (intro _; exact trivial) | (intro _; intro _ _; exact trivial) | (intro _; intro j hj; rfl)) ?_; conv => whnf)
              | (rw [St.set_same]; conv => whnf) | (rw [St.new_same]; conv => whnf)
              | (rw [St.set_ne _ _ (by first | assumption | omega | (simp only [St.set_n, St.new_n] at *; omega))]; conv => whnf)
              | (rw [St.new_ne _ _ (by first | assumption | omega | (simp only [St.set_n, St.new_n] at *; omega))]; conv => whnf))
            refine ACallsW.of (zat_ok s x i (by omega) (by omega) (by omega) _ Non) (fun _ _ _ h => h.elim) ?_
            rintro _ _ _ ⟨e1, rfl⟩
            have e2 := e1.symm
            subst e2
            cases hpx : x.isPrefixOf (s.drop i) with
            | true =>
              have hpp := List.isPrefixOf_iff_prefix.1 hpx
              have hso := hfirst j x hx hpp hno
              have hpl := hpp.length_le
              rw [hso, if_neg hxm.2] at htok
              conv => whnf
              repeat' (first
                | (refine Bc_t ?_; conv => whnf) | (refine Bc_f ?_; conv => whnf) | (rw [g1]; conv => whnf) | (rw [g2]; conv => whnf) | (rw [g3]; conv => whnf) | (rw [g4]; conv => whnf)
                | (rw [g5]; conv => whnf) | (rw [g6]; conv => whnf) | (rw [g7]; conv => whnf) | (rw [hr]; conv => whnf)
                | (refine And.intro (by first | omega | assumption | (simp only [St.set_n, St.new_n] at *; omega) | (simp; done) | (simp; omega) | (intro _ _; first | assumption | (simp only [St.set_n, St.new_n] at *; omega)) | (intro _; exact trivial) | (intro _; intro _ _; exact trivial) | (intro _; intro j hj; rfl)) ?_; conv => whnf)
                | (rw [St.set_same]; conv => whnf) | (rw [St.new_same]; conv => whnf)
                | (rw [St.set_ne _ _ (by first | assumption | omega | (simp only [St.set_n, St.new_n] at *; omega))]; conv => whnf)
                | (rw [St.new_ne _ _ (by first | assumption | omega | (simp only [St.set_n, St.new_n] at *; omega))]; conv => whnf))
              refine Exists.intro (fun id _ => id = σ.n + 1) ?_
              conv => whnf
              repeat' (first
                | (refine Bc_t ?_; conv => whnf) | (refine Bc_f ?_; conv => whnf) | (rw [g1]; conv => whnf) | (rw [g2]; conv => whnf) | (rw [g3]; conv => whnf) | (rw [g4]; conv => whnf)
                | (rw [g5]; conv => whnf) | (rw [g6]; conv => whnf) | (rw [g7]; conv => whnf) | (rw [hr]; conv => whnf)
                | (refine And.intro (by first | omega | assumption | (simp only [St.set_n, St.new_n] at *; omega) | (simp; done) | (simp; omega) | (intro _ _; first | assumption | (simp only [St.set_n, St.new_n] at *; omega)) | (intro _; exact trivial) | (intro _; intro _ _; exact trivial) | (intro _; intro j hj; rfl)) ?_; conv => whnf)
                | (rw [St.set_same]; conv => whnf) | (rw [St.new_same]; conv => whnf)
                | (rw [St.set_ne _ _ (by first | assumption | omega | (simp only [St.set_n, St.new_n] at *; omega))]; conv => whnf)
                | (rw [St.new_ne _ _ (by first | assumption | omega | (simp only [St.set_n, St.new_n] at *; omega))]; conv => whnf))
              refine And.intro (fun j _ => ⟨Nat.le_refl _, fun q => by have q2 : σ.n = σ.n + 1 := q; omega⟩) ?_
              conv => whnf
              repeat' (first
                | (refine Bc_t ?_; conv => whnf) | (refine Bc_f ?_; conv => whnf) | (rw [g1]; conv => whnf) | (rw [g2]; conv => whnf) | (rw [g3]; conv => whnf) | (rw [g4]; conv => whnf)
                | (rw [g5]; conv => whnf) | (rw [g6]; conv => whnf) | (rw [g7]; conv => whnf) | (rw [hr]; conv => whnf)
                | (refine And.intro (by first | omega | assumption | (simp only [St.set_n, St.new_n] at *; omega) | (simp; done) | (simp; omega) | (intro _ _; first | assumption | (simp only [St.set_n, St.new_n] at *; omega)) | (intro _; exact trivial) | (intro _; intro _ _; exact trivial) | (intro _; intro j hj; rfl)) ?_; conv => whnf)
                | (rw [St.set_same]; conv => whnf) | (rw [St.new_same]; conv => whnf)
                | (rw [St.set_ne _ _ (by first | assumption | omega | (simp only [St.set_n, St.new_n] at *; omega))]; conv => whnf)
                | (rw [St.new_ne _ _ (by first | assumption | omega | (simp only [St.set_n, St.new_n] at *; omega))]; conv => whnf))
              exact Fin.of (by rw [show oneA s i = .tup [tokA 5 i 0 x, .int .i64 x.length, .int .i64 0] by unfold oneA; rw [htok]; show A.tup [tokA 5 i 0 x, .int .i64 ((s.length - i - ((s.drop i).drop x.length).length : Nat)), .int .i64 0] = _; rw [List.length_drop, hdl, show s.length - i - (s.length - i - x.length) = x.length by omega]]; rfl)
            | false =>
              conv => whnf
              repeat' (first
                | (refine Bc_t ?_; conv => whnf) | (refine Bc_f ?_; conv => whnf) | (rw [g1]; conv => whnf) | (rw [g2]; conv => whnf) | (rw [g3]; conv => whnf) | (rw [g4]; conv => whnf)
                | (rw [g5]; conv => whnf) | (rw [g6]; conv => whnf) | (rw [g7]; conv => whnf) | (rw [hr]; conv => whnf)
                | (refine And.intro (by first | omega | assumption | (simp only [St.set_n, St.new_n] at *; omega) | (simp; done) | (simp; omega) | (intro _ _; first | assumption | (simp only [St.set_n, St.new_n] at *; omega)) | (intro _; exact trivial) | (intro _; intro _ _; exact trivial) | (intro _; intro j hj; rfl)) ?_; conv => whnf)
                | (rw [St.set_same]; conv => whnf) | (rw [St.new_same]; conv => whnf)
                | (rw [St.set_ne _ _ (by first | assumption | omega | (simp only [St.set_n, St.new_n] at *; omega))]; conv => whnf)
                | (rw [St.new_ne _ _ (by first | assumption | omega | (simp only [St.set_n, St.new_n] at *; omega))]; conv => whnf))
              refine ⟨_, [(0, .str s), (1, .int .i64 i), (4, .ptr σ.n 0), (7, .ptr (σ.n + 1) 0), (14, .sl .full 1 (L.map A.str)), (15, .int .i64 (j + 1 : Nat))], ?_, ⟨rfl, rfl, rfl, rfl, rfl, int_eq (by rw [w64 (by omega) (by omega)]; omega), trivial⟩, j + 1, rfl, by omega, fun y hy => ?_, rfl, rfl⟩
              · omega
              · rw [List.take_add_one, hx] at hy
                rcases List.mem_append.1 hy with q | q
                · exact hno y q
                · simp at q; rw [q]; exact fun w => absurd (List.isPrefixOf_iff_prefix.2 w) (by rw [hpx]; simp)
          · obtain rfl : j = 33 := by omega
            have g7 : decide (((33 : Nat) : Int) < (L.map A.str).length) = false := by rw [List.length_map, hlenR]; decide
            rw [← hlenR, List.take_length] at hno
            rw [hnone hno, if_pos rfl] at htok
            conv => whnf
            repeat' (first
              | (refine Bc_t ?_; conv => whnf) | (refine Bc_f ?_; conv => whnf) | (rw [g1]; conv => whnf) | (rw [g2]; conv => whnf) | (rw [g3]; conv => whnf) | (rw [g4]; conv => whnf)
              | (rw [g5]; conv => whnf) | (rw [g6]; conv => whnf) | (rw [g7]; conv => whnf) | (rw [hr]; conv => whnf)
              | (refine And.intro (by first | omega | assumption | (simp only [St.set_n, St.new_n] at *; omega) | (simp; done) | (simp; omega) | (intro _ _; first | assumption | (simp only [St.set_n, St.new_n] at *; omega)) | (intro _; exact trivial) | (intro _; intro _ _; exact trivial) | (intro _; intro j hj; rfl)) ?_; conv => whnf)
              | (rw [St.set_same]; conv => whnf) | (rw [St.new_same]; conv => whnf)
              | (rw [St.set_ne _ _ (by first | assumption | omega | (simp only [St.set_n, St.new_n] at *; omega))]; conv => whnf)
              | (rw [St.new_ne _ _ (by first | assumption | omega | (simp only [St.set_n, St.new_n] at *; omega))]; conv => whnf))
            exact Fin.of (by rw [show oneA s i = .tup [tokA 0 i 0 [], .int .i64 0, .int .i64 20] by unfold oneA; rw [htok]; rfl]; rfl)
  · have g1 : decide (((i + n : Nat) : Int) < s.length) = true := decide_eq_true (by omega)
    have hnm' := hnm
    unfold isName at hnm'
    simp only [Bool.or_eq_false_iff] at hnm'
    obtain ⟨⟨⟨m1, m2⟩, m3⟩, m4⟩ := hnm'
    have gc : s.getD ((i + n : Nat) : Int).toNat 0 = s.getD (i + n) 0 := rfl
    have g2 : (((s.getD ((i + n : Nat) : Int).toNat 0).toNat : Int) == 39) = false := by rw [gc]; exact beq_eq_false_iff_ne.2 (by have := beq_eq_false_iff_ne.1 m4; omega)
    conv => whnf
    repeat' (first
      | (refine Bc_t ?_; conv => whnf) | (refine Bc_f ?_; conv => whnf) | (rw [g1]; conv => whnf) | (rw [g2]; conv => whnf) | (rw [g3]; conv => whnf) | (rw [g4]; conv => whnf)
      | (rw [g5]; conv => whnf) | (rw [g6]; conv => whnf) | (rw [g7]; conv => whnf) | (rw [hr]; conv => whnf)
      | (refine And.intro (by first | omega | assumption | (simp only [St.set_n, St.new_n] at *; omega) | (simp; done) | (simp; omega) | (intro _ _; first | assumption | (simp only [St.set_n, St.new_n] at *; omega)) | (intro _; exact trivial) | (intro _; intro _ _; exact trivial) | (intro _; intro j hj; rfl)) ?_; conv => whnf)
      | (rw [St.set_same]; conv => whnf) | (rw [St.new_same]; conv => whnf)
      | (rw [St.set_ne _ _ (by first | assumption | omega | (simp only [St.set_n, St.new_n] at *; omega))]; conv => whnf)
      | (rw [St.new_ne _ _ (by first | assumption | omega | (simp only [St.set_n, St.new_n] at *; omega))]; conv => whnf))
    refine ACallsW.of (zsmall_ok (s.getD (i + n) 0) _ Non) (fun _ _ _ h => h.elim) ?_
    rintro _ σ2 _ ⟨e1, rfl⟩
    have e2 := e1.symm
    subst e2
    rw [m1]
    conv => whnf
    repeat' (first
      | (refine Bc_t ?_; conv => whnf) | (refine Bc_f ?_; conv => whnf) | (rw [g1]; conv => whnf) | (rw [g2]; conv => whnf) | (rw [g3]; conv => whnf) | (rw [g4]; conv => whnf)
      | (rw [g5]; conv => whnf) | (rw [g6]; conv => whnf) | (rw [g7]; conv => whnf) | (rw [hr]; conv => whnf)
      | (refine And.intro (by first | omega | assumption | (simp only [St.set_n, St.new_n] at *; omega) | (simp; done) | (simp; omega) | (intro _ _; first | assumption | (simp only [St.set_n, St.new_n] at *; omega)) | (intro _; exact trivial) | (intro _; intro _ _; exact trivial) | (intro _; intro j hj; rfl)) ?_; conv => whnf)
      | (rw [St.set_same]; conv => whnf) | (rw [St.new_same]; conv => whnf)
      | (rw [St.set_ne _ _ (by first | assumption | omega | (simp only [St.set_n, St.new_n] at *; omega))]; conv => whnf)
      | (rw [St.new_ne _ _ (by first | assumption | omega | (simp only [St.set_n, St.new_n] at *; omega))]; conv => whnf))
    refine ACallsW.of (zgreat_ok (s.getD (i + n) 0) _ Non) (fun _ _ _ h => h.elim) ?_
    rintro _ σ2 _ ⟨e1, rfl⟩
    have e2 := e1.symm
    subst e2
    rw [m2]
    conv => whnf
    repeat' (first
      | (refine Bc_t ?_; conv => whnf) | (refine Bc_f ?_; conv => whnf) | (rw [g1]; conv => whnf) | (rw [g2]; conv => whnf) | (rw [g3]; conv => whnf) | (rw [g4]; conv => whnf)
      | (rw [g5]; conv => whnf) | (rw [g6]; conv => whnf) | (rw [g7]; conv => whnf) | (rw [hr]; conv => whnf)
      | (refine And.intro (by first | omega | assumption | (simp only [St.set_n, St.new_n] at *; omega) | (simp; done) | (simp; omega) | (intro _ _; first | assumption | (simp only [St.set_n, St.new_n] at *; omega)) | (intro _; exact trivial) | (intro _; intro _ _; exact trivial) | (intro _; intro j hj; rfl)) ?_; conv => whnf)
      | (rw [St.set_same]; conv => whnf) | (rw [St.new_same]; conv => whnf)
      | (rw [St.set_ne _ _ (by first | assumption | omega | (simp only [St.set_n, St.new_n] at *; omega))]; conv => whnf)
      | (rw [St.new_ne _ _ (by first | assumption | omega | (simp only [St.set_n, St.new_n] at *; omega))]; conv => whnf))
    refine ACallsW.of (zdigit_ok (s.getD (i + n) 0) _ Non) (fun _ _ _ h => h.elim) ?_
    rintro _ σ2 _ ⟨e1, rfl⟩
    have e2 := e1.symm
    subst e2
    rw [m3]
    conv => whnf
    repeat' (first
      | (refine Bc_t ?_; conv => whnf) | (refine Bc_f ?_; conv => whnf) | (rw [g1]; conv => whnf) | (rw [g2]; conv => whnf) | (rw [g3]; conv => whnf) | (rw [g4]; conv => whnf)
      | (rw [g5]; conv => whnf) | (rw [g6]; conv => whnf) | (rw [g7]; conv => whnf) | (rw [hr]; conv => whnf)
      | (refine And.intro (by first | omega | assumption | (simp only [St.set_n, St.new_n] at *; omega) | (simp; done) | (simp; omega) | (intro _ _; first | assumption | (simp only [St.set_n, St.new_n] at *; omega)) | (intro _; exact trivial) | (intro _; intro _ _; exact trivial) | (intro _; intro j hj; rfl)) ?_; conv => whnf)
      | (rw [St.set_same]; conv => whnf) | (rw [St.new_same]; conv => whnf)
      | (rw [St.set_ne _ _ (by first | assumption | omega | (simp only [St.set_n, St.new_n] at *; omega))]; conv => whnf)
      | (rw [St.new_ne _ _ (by first | assumption | omega | (simp only [St.set_n, St.new_n] at *; omega))]; conv => whnf))
    clear g1 g2
    refine ACallsW.of (zsmall_ok (s.getD i 0) _ Non) (fun _ _ _ h => h.elim) ?_
    rintro _ _ _ ⟨e1, rfl⟩
    have e2 := e1.symm
    subst e2
    have g3 := ho2
    have g4 := ho1
    by_cases hng : (isSmall (s.getD i 0) || isGreat (s.getD i 0)) = true
    · rw [if_pos hng] at htok
      have hres : ∀ k : Nat, k = (if isGreat (s.getD i 0) = true then 4 else if (((s.take (i + n)).drop i) == [95] || isWord ((s.take (i + n)).drop i)) = true then 5 else 3) → oneA s i = .tup [tokA k i 0 ((s.take (i + n)).drop i), .int .i64 n, .int .i64 0] := by
        intro k hk
        unfold oneA
        rw [htok, ← hk]
        show A.tup [tokA k i 0 ((s.take (i + n)).drop i), .int .i64 ((s.length - i - ((s.drop i).drop n).length : Nat)), .int .i64 0] = _
        rw [hn2]
      have hcase : isSmall (s.getD i 0) = true ∨ (isSmall (s.getD i 0) = false ∧ isGreat (s.getD i 0) = true) := by revert hng; cases isSmall (s.getD i 0) <;> cases isGreat (s.getD i 0) <;> simp
      rcases hcase with hsm | ⟨hsm, hgr1⟩
      · rw [hsm]
        conv => whnf
        repeat' (first
          | (refine Bc_t ?_; conv => whnf) | (refine Bc_f ?_; conv => whnf) | (rw [g1]; conv => whnf) | (rw [g2]; conv => whnf) | (rw [g3]; conv => whnf) | (rw [g4]; conv => whnf)
          | (rw [g5]; conv => whnf) | (rw [g6]; conv => whnf) | (rw [g7]; conv => whnf) | (rw [hr]; conv => whnf)
          | (refine And.intro (by first | omega | assumption | (simp only [St.set_n, St.new_n] at *; omega) | (simp; done) | (simp; omega) | (intro _ _; first | assumption | (simp only [St.set_n, St.new_n] at *; omega)) | (intro _; exact trivial) | (intro _; intro _ _; exact trivial) | (intro _; intro j hj; rfl)) ?_; conv => whnf)
          | (rw [St.set_same]; conv => whnf) | (rw [St.new_same]; conv => whnf)
          | (rw [St.set_ne _ _ (by first | assumption | omega | (simp only [St.set_n, St.new_n] at *; omega))]; conv => whnf)
          | (rw [St.new_ne _ _ (by first | assumption | omega | (simp only [St.set_n, St.new_n] at *; omega))]; conv => whnf))
        refine ACallsW.of (zgreat_ok (s.getD i 0) _ Non) (fun _ _ _ h => h.elim) ?_
        rintro _ _ _ ⟨e1, rfl⟩
        have e2 := e1.symm
        subst e2
        cases hgr : isGreat (s.getD i 0) with
        | true =>
          conv => whnf
          repeat' (first
            | (refine Bc_t ?_; conv => whnf) | (refine Bc_f ?_; conv => whnf) | (rw [g1]; conv => whnf) | (rw [g2]; conv => whnf) | (rw [g3]; conv => whnf) | (rw [g4]; conv => whnf)
            | (rw [g5]; conv => whnf) | (rw [g6]; conv => whnf) | (rw [g7]; conv => whnf) | (rw [hr]; conv => whnf)
            | (refine And.intro (by first | omega | assumption | (simp only [St.set_n, St.new_n] at *; omega) | (simp; done) | (simp; omega) | (intro _ _; first | assumption | (simp only [St.set_n, St.new_n] at *; omega)) | (intro _; exact trivial) | (intro _; intro _ _; exact trivial) | (intro _; intro j hj; rfl)) ?_; conv => whnf)
            | (rw [St.set_same]; conv => whnf) | (rw [St.new_same]; conv => whnf)
            | (rw [St.set_ne _ _ (by first | assumption | omega | (simp only [St.set_n, St.new_n] at *; omega))]; conv => whnf)
            | (rw [St.new_ne _ _ (by first | assumption | omega | (simp only [St.set_n, St.new_n] at *; omega))]; conv => whnf))
          exact Fin.of (by rw [hres 4 (by rw [hgr]; rfl)]; rfl)
        | false =>
          conv => whnf
          repeat' (first
            | (refine Bc_t ?_; conv => whnf) | (refine Bc_f ?_; conv => whnf) | (rw [g1]; conv => whnf) | (rw [g2]; conv => whnf) | (rw [g3]; conv => whnf) | (rw [g4]; conv => whnf)
            | (rw [g5]; conv => whnf) | (rw [g6]; conv => whnf) | (rw [g7]; conv => whnf) | (rw [hr]; conv => whnf)
            | (refine And.intro (by first | omega | assumption | (simp only [St.set_n, St.new_n] at *; omega) | (simp; done) | (simp; omega) | (intro _ _; first | assumption | (simp only [St.set_n, St.new_n] at *; omega)) | (intro _; exact trivial) | (intro _; intro _ _; exact trivial) | (intro _; intro j hj; rfl)) ?_; conv => whnf)
            | (rw [St.set_same]; conv => whnf) | (rw [St.new_same]; conv => whnf)
            | (rw [St.set_ne _ _ (by first | assumption | omega | (simp only [St.set_n, St.new_n] at *; omega))]; conv => whnf)
            | (rw [St.new_ne _ _ (by first | assumption | omega | (simp only [St.set_n, St.new_n] at *; omega))]; conv => whnf))
          refine ACallsW.of (rIsWord_ok ((s.take (i + n)).drop i) _ Non) (fun _ _ _ h => h.elim) ?_
          rintro _ _ _ ⟨e1, rfl⟩
          have e2 := e1.symm
          subst e2
          rw [← isWord_iff]
          cases hwd : isWord ((s.take (i + n)).drop i) with
          | true =>
            conv => whnf
            repeat' (first
              | (refine Bc_t ?_; conv => whnf) | (refine Bc_f ?_; conv => whnf) | (rw [g1]; conv => whnf) | (rw [g2]; conv => whnf) | (rw [g3]; conv => whnf) | (rw [g4]; conv => whnf)
              | (rw [g5]; conv => whnf) | (rw [g6]; conv => whnf) | (rw [g7]; conv => whnf) | (rw [hr]; conv => whnf)
              | (refine And.intro (by first | omega | assumption | (simp only [St.set_n, St.new_n] at *; omega) | (simp; done) | (simp; omega) | (intro _ _; first | assumption | (simp only [St.set_n, St.new_n] at *; omega)) | (intro _; exact trivial) | (intro _; intro _ _; exact trivial) | (intro _; intro j hj; rfl)) ?_; conv => whnf)
              | (rw [St.set_same]; conv => whnf) | (rw [St.new_same]; conv => whnf)
              | (rw [St.set_ne _ _ (by first | assumption | omega | (simp only [St.set_n, St.new_n] at *; omega))]; conv => whnf)
              | (rw [St.new_ne _ _ (by first | assumption | omega | (simp only [St.set_n, St.new_n] at *; omega))]; conv => whnf))
            exact Fin.of (by rw [hres 5 (by rw [hgr, hwd]; simp)]; rfl)
          | false =>
            cases h95 : (((s.take (i + n)).drop i) == [95]) with
            | true =>
              have g5 : (List.drop (i : Int).toNat (List.take ((i + n : Nat) : Int).toNat s) == [95]) = true := h95
              conv => whnf
              repeat' (first
                | (refine Bc_t ?_; conv => whnf) | (refine Bc_f ?_; conv => whnf) | (rw [g1]; conv => whnf) | (rw [g2]; conv => whnf) | (rw [g3]; conv => whnf) | (rw [g4]; conv => whnf)
                | (rw [g5]; conv => whnf) | (rw [g6]; conv => whnf) | (rw [g7]; conv => whnf) | (rw [hr]; conv => whnf)
                | (refine And.intro (by first | omega | assumption | (simp only [St.set_n, St.new_n] at *; omega) | (simp; done) | (simp; omega) | (intro _ _; first | assumption | (simp only [St.set_n, St.new_n] at *; omega)) | (intro _; exact trivial) | (intro _; intro _ _; exact trivial) | (intro _; intro j hj; rfl)) ?_; conv => whnf)
                | (rw [St.set_same]; conv => whnf) | (rw [St.new_same]; conv => whnf)
                | (rw [St.set_ne _ _ (by first | assumption | omega | (simp only [St.set_n, St.new_n] at *; omega))]; conv => whnf)
                | (rw [St.new_ne _ _ (by first | assumption | omega | (simp only [St.set_n, St.new_n] at *; omega))]; conv => whnf))
              exact Fin.of (by rw [hres 5 (by rw [hgr, hwd, h95]; rfl)]; rfl)
            | false =>
              have g5 : (List.drop (i : Int).toNat (List.take ((i + n : Nat) : Int).toNat s) == [95]) = false := h95
              conv => whnf
              repeat' (first
                | (refine Bc_t ?_; conv => whnf) | (refine Bc_f ?_; conv => whnf) | (rw [g1]; conv => whnf) | (rw [g2]; conv => whnf) | (rw [g3]; conv => whnf) | (rw [g4]; conv => whnf)
                | (rw [g5]; conv => whnf) | (rw [g6]; conv => whnf) | (rw [g7]; conv => whnf) | (rw [hr]; conv => whnf)
                | (refine And.intro (by first | omega | assumption | (simp only [St.set_n, St.new_n] at *; omega) | (simp; done) | (simp; omega) | (intro _ _; first | assumption | (simp only [St.set_n, St.new_n] at *; omega)) | (intro _; exact trivial) | (intro _; intro _ _; exact trivial) | (intro _; intro j hj; rfl)) ?_; conv => whnf)
                | (rw [St.set_same]; conv => whnf) | (rw [St.new_same]; conv => whnf)
                | (rw [St.set_ne _ _ (by first | assumption | omega | (simp only [St.set_n, St.new_n] at *; omega))]; conv => whnf)
                | (rw [St.new_ne _ _ (by first | assumption | omega | (simp only [St.set_n, St.new_n] at *; omega))]; conv => whnf))
              exact Fin.of (by rw [hres 3 (by rw [hgr, hwd, h95]; rfl)]; rfl)
      · rw [hsm]
        conv => whnf
        repeat' (first
          | (refine Bc_t ?_; conv => whnf) | (refine Bc_f ?_; conv => whnf) | (rw [g1]; conv => whnf) | (rw [g2]; conv => whnf) | (rw [g3]; conv => whnf) | (rw [g4]; conv => whnf)
          | (rw [g5]; conv => whnf) | (rw [g6]; conv => whnf) | (rw [g7]; conv => whnf) | (rw [hr]; conv => whnf)
          | (refine And.intro (by first | omega | assumption | (simp only [St.set_n, St.new_n] at *; omega) | (simp; done) | (simp; omega) | (intro _ _; first | assumption | (simp only [St.set_n, St.new_n] at *; omega)) | (intro _; exact trivial) | (intro _; intro _ _; exact trivial) | (intro _; intro j hj; rfl)) ?_; conv => whnf)
          | (rw [St.set_same]; conv => whnf) | (rw [St.new_same]; conv => whnf)
          | (rw [St.set_ne _ _ (by first | assumption | omega | (simp only [St.set_n, St.new_n] at *; omega))]; conv => whnf)
          | (rw [St.new_ne _ _ (by first | assumption | omega | (simp only [St.set_n, St.new_n] at *; omega))]; conv => whnf))
        refine ACallsW.of (zgreat_ok (s.getD i 0) _ Non) (fun _ _ _ h => h.elim) ?_
        rintro _ _ _ ⟨e1, rfl⟩
        have e2 := e1.symm
        subst e2
        rw [hgr1]
        conv => whnf
        repeat' (first
          | (refine Bc_t ?_; conv => whnf) | (refine Bc_f ?_; conv => whnf) | (rw [g1]; conv => whnf) | (rw [g2]; conv => whnf) | (rw [g3]; conv => whnf) | (rw [g4]; conv => whnf)
          | (rw [g5]; conv => whnf) | (rw [g6]; conv => whnf) | (rw [g7]; conv => whnf) | (rw [hr]; conv => whnf)
          | (refine And.intro (by first | omega | assumption | (simp only [St.set_n, St.new_n] at *; omega) | (simp; done) | (simp; omega) | (intro _ _; first | assumption | (simp only [St.set_n, St.new_n] at *; omega)) | (intro _; exact trivial) | (intro _; intro _ _; exact trivial) | (intro _; intro j hj; rfl)) ?_; conv => whnf)
          | (rw [St.set_same]; conv => whnf) | (rw [St.new_same]; conv => whnf)
          | (rw [St.set_ne _ _ (by first | assumption | omega | (simp only [St.set_n, St.new_n] at *; omega))]; conv => whnf)
          | (rw [St.new_ne _ _ (by first | assumption | omega | (simp only [St.set_n, St.new_n] at *; omega))]; conv => whnf))
        refine ACallsW.of (zgreat_ok (s.getD i 0) _ Non) (fun _ _ _ h => h.elim) ?_
        rintro _ _ _ ⟨e1, rfl⟩
        have e2 := e1.symm
        subst e2
        cases hgr : isGreat (s.getD i 0) with
        | true =>
          conv => whnf
          repeat' (first
            | (refine Bc_t ?_; conv => whnf) | (refine Bc_f ?_; conv => whnf) | (rw [g1]; conv => whnf) | (rw [g2]; conv => whnf) | (rw [g3]; conv => whnf) | (rw [g4]; conv => whnf)
            | (rw [g5]; conv => whnf) | (rw [g6]; conv => whnf) | (rw [g7]; conv => whnf) | (rw [hr]; conv => whnf)
            | (refine And.intro (by first | omega | assumption | (simp only [St.set_n, St.new_n] at *; omega) | (simp; done) | (simp; omega) | (intro _ _; first | assumption | (simp only [St.set_n, St.new_n] at *; omega)) | (intro _; exact trivial) | (intro _; intro _ _; exact trivial) | (intro _; intro j hj; rfl)) ?_; conv => whnf)
            | (rw [St.set_same]; conv => whnf) | (rw [St.new_same]; conv => whnf)
            | (rw [St.set_ne _ _ (by first | assumption | omega | (simp only [St.set_n, St.new_n] at *; omega))]; conv => whnf)
            | (rw [St.new_ne _ _ (by first | assumption | omega | (simp only [St.set_n, St.new_n] at *; omega))]; conv => whnf))
          exact Fin.of (by rw [hres 4 (by rw [hgr]; rfl)]; rfl)
        | false =>
          conv => whnf
          repeat' (first
            | (refine Bc_t ?_; conv => whnf) | (refine Bc_f ?_; conv => whnf) | (rw [g1]; conv => whnf) | (rw [g2]; conv => whnf) | (rw [g3]; conv => whnf) | (rw [g4]; conv => whnf)
            | (rw [g5]; conv => whnf) | (rw [g6]; conv => whnf) | (rw [g7]; conv => whnf) | (rw [hr]; conv => whnf)
            | (refine And.intro (by first | omega | assumption | (simp only [St.set_n, St.new_n] at *; omega) | (simp; done) | (simp; omega) | (intro _ _; first | assumption | (simp only [St.set_n, St.new_n] at *; omega)) | (intro _; exact trivial) | (intro _; intro _ _; exact trivial) | (intro _; intro j hj; rfl)) ?_; conv => whnf)
            | (rw [St.set_same]; conv => whnf) | (rw [St.new_same]; conv => whnf)
            | (rw [St.set_ne _ _ (by first | assumption | omega | (simp only [St.set_n, St.new_n] at *; omega))]; conv => whnf)
            | (rw [St.new_ne _ _ (by first | assumption | omega | (simp only [St.set_n, St.new_n] at *; omega))]; conv => whnf))
          refine ACallsW.of (rIsWord_ok ((s.take (i + n)).drop i) _ Non) (fun _ _ _ h => h.elim) ?_
          rintro _ _ _ ⟨e1, rfl⟩
          have e2 := e1.symm
          subst e2
          rw [← isWord_iff]
          cases hwd : isWord ((s.take (i + n)).drop i) with
          | true =>
            conv => whnf
            repeat' (first
              | (refine Bc_t ?_; conv => whnf) | (refine Bc_f ?_; conv => whnf) | (rw [g1]; conv => whnf) | (rw [g2]; conv => whnf) | (rw [g3]; conv => whnf) | (rw [g4]; conv => whnf)
              | (rw [g5]; conv => whnf) | (rw [g6]; conv => whnf) | (rw [g7]; conv => whnf) | (rw [hr]; conv => whnf)
              | (refine And.intro (by first | omega | assumption | (simp only [St.set_n, St.new_n] at *; omega) | (simp; done) | (simp; omega) | (intro _ _; first | assumption | (simp only [St.set_n, St.new_n] at *; omega)) | (intro _; exact trivial) | (intro _; intro _ _; exact trivial) | (intro _; intro j hj; rfl)) ?_; conv => whnf)
              | (rw [St.set_same]; conv => whnf) | (rw [St.new_same]; conv => whnf)
              | (rw [St.set_ne _ _ (by first | assumption | omega | (simp only [St.set_n, St.new_n] at *; omega))]; conv => whnf)
              | (rw [St.new_ne _ _ (by first | assumption | omega | (simp only [St.set_n, St.new_n] at *; omega))]; conv => whnf))
            exact Fin.of (by rw [hres 5 (by rw [hgr, hwd]; simp)]; rfl)
          | false =>
            cases h95 : (((s.take (i + n)).drop i) == [95]) with
            | true =>
              have g5 : (List.drop (i : Int).toNat (List.take ((i + n : Nat) : Int).toNat s) == [95]) = true := h95
              conv => whnf
              repeat' (first
                | (refine Bc_t ?_; conv => whnf) | (refine Bc_f ?_; conv => whnf) | (rw [g1]; conv => whnf) | (rw [g2]; conv => whnf) | (rw [g3]; conv => whnf) | (rw [g4]; conv => whnf)
                | (rw [g5]; conv => whnf) | (rw [g6]; conv => whnf) | (rw [g7]; conv => whnf) | (rw [hr]; conv => whnf)
                | (refine And.intro (by first | omega | assumption | (simp only [St.set_n, St.new_n] at *; omega) | (simp; done) | (simp; omega) | (intro _ _; first | assumption | (simp only [St.set_n, St.new_n] at *; omega)) | (intro _; exact trivial) | (intro _; intro _ _; exact trivial) | (intro _; intro j hj; rfl)) ?_; conv => whnf)
                | (rw [St.set_same]; conv => whnf) | (rw [St.new_same]; conv => whnf)
                | (rw [St.set_ne _ _ (by first | assumption | omega | (simp only [St.set_n, St.new_n] at *; omega))]; conv => whnf)
                | (rw [St.new_ne _ _ (by first | assumption | omega | (simp only [St.set_n, St.new_n] at *; omega))]; conv => whnf))
              exact Fin.of (by rw [hres 5 (by rw [hgr, hwd, h95]; rfl)]; rfl)
            | false =>
              have g5 : (List.drop (i : Int).toNat (List.take ((i + n : Nat) : Int).toNat s) == [95]) = false := h95
              conv => whnf
              repeat' (first
                | (refine Bc_t ?_; conv => whnf) | (refine Bc_f ?_; conv => whnf) | (rw [g1]; conv => whnf) | (rw [g2]; conv => whnf) | (rw [g3]; conv => whnf) | (rw [g4]; conv => whnf)
                | (rw [g5]; conv => whnf) | (rw [g6]; conv => whnf) | (rw [g7]; conv => whnf) | (rw [hr]; conv => whnf)
                | (refine And.intro (by first | omega | assumption | (simp only [St.set_n, St.new_n] at *; omega) | (simp; done) | (simp; omega) | (intro _ _; first | assumption | (simp only [St.set_n, St.new_n] at *; omega)) | (intro _; exact trivial) | (intro _; intro _ _; exact trivial) | (intro _; intro j hj; rfl)) ?_; conv => whnf)
                | (rw [St.set_same]; conv => whnf) | (rw [St.new_same]; conv => whnf)
                | (rw [St.set_ne _ _ (by first | assumption | omega | (simp only [St.set_n, St.new_n] at *; omega))]; conv => whnf)
                | (rw [St.new_ne _ _ (by first | assumption | omega | (simp only [St.set_n, St.new_n] at *; omega))]; conv => whnf))
              exact Fin.of (by rw [hres 3 (by rw [hgr, hwd, h95]; rfl)]; rfl)
    · rw [if_neg hng] at htok
      obtain ⟨hsm, hgr⟩ : isSmall (s.getD i 0) = false ∧ isGreat (s.getD i 0) = false := by revert hng; cases isSmall (s.getD i 0) <;> cases isGreat (s.getD i 0) <;> simp
      rw [hsm]
      conv => whnf
      repeat' (first
        | (refine Bc_t ?_; conv => whnf) | (refine Bc_f ?_; conv => whnf) | (rw [g1]; conv => whnf) | (rw [g2]; conv => whnf) | (rw [g3]; conv => whnf) | (rw [g4]; conv => whnf)
        | (rw [g5]; conv => whnf) | (rw [g6]; conv => whnf) | (rw [g7]; conv => whnf) | (rw [hr]; conv => whnf)
        | (refine And.intro (by first | omega | assumption | (simp only [St.set_n, St.new_n] at *; omega) | (simp; done) | (simp; omega) | (intro _ _; first | assumption | (simp only [St.set_n, St.new_n] at *; omega)) | (intro _; exact trivial) | (intro _; intro _ _; exact trivial) | (intro _; intro j hj; rfl)) ?_; conv => whnf)
        | (rw [St.set_same]; conv => whnf) | (rw [St.new_same]; conv => whnf)
        | (rw [St.set_ne _ _ (by first | assumption | omega | (simp only [St.set_n, St.new_n] at *; omega))]; conv => whnf)
        | (rw [St.new_ne _ _ (by first | assumption | omega | (simp only [St.set_n, St.new_n] at *; omega))]; conv => whnf))
      refine ACallsW.of (zgreat_ok (s.getD i 0) _ Non) (fun _ _ _ h => h.elim) ?_
      rintro _ _ _ ⟨e1, rfl⟩
      have e2 := e1.symm
      subst e2
      rw [hgr]
      conv => whnf
      repeat' (first
        | (refine Bc_t ?_; conv => whnf) | (refine Bc_f ?_; conv => whnf) | (rw [g1]; conv => whnf) | (rw [g2]; conv => whnf) | (rw [g3]; conv => whnf) | (rw [g4]; conv => whnf)
        | (rw [g5]; conv => whnf) | (rw [g6]; conv => whnf) | (rw [g7]; conv => whnf) | (rw [hr]; conv => whnf)
        | (refine And.intro (by first | omega | assumption | (simp only [St.set_n, St.new_n] at *; omega) | (simp; done) | (simp; omega) | (intro _ _; first | assumption | (simp only [St.set_n, St.new_n] at *; omega)) | (intro _; exact trivial) | (intro _; intro _ _; exact trivial) | (intro _; intro j hj; rfl)) ?_; conv => whnf)
        | (rw [St.set_same]; conv => whnf) | (rw [St.new_same]; conv => whnf)
        | (rw [St.set_ne _ _ (by first | assumption | omega | (simp only [St.set_n, St.new_n] at *; omega))]; conv => whnf)
        | (rw [St.new_ne _ _ (by first | assumption | omega | (simp only [St.set_n, St.new_n] at *; omega))]; conv => whnf))
      refine ACallsW.of (zdigit_ok (s.getD i 0) _ Non) (fun _ _ _ h => h.elim) ?_
      rintro _ _ _ ⟨e1, rfl⟩
      have e2 := e1.symm
      subst e2
      cases hdg : isDigit (s.getD i 0) with
      | true =>
        rw [if_pos hdg] at htok
        conv => whnf
        repeat' (first
          | (refine Bc_t ?_; conv => whnf) | (refine Bc_f ?_; conv => whnf) | (rw [g1]; conv => whnf) | (rw [g2]; conv => whnf) | (rw [g3]; conv => whnf) | (rw [g4]; conv => whnf)
          | (rw [g5]; conv => whnf) | (rw [g6]; conv => whnf) | (rw [g7]; conv => whnf) | (rw [hr]; conv => whnf)
          | (refine And.intro (by first | omega | assumption | (simp only [St.set_n, St.new_n] at *; omega) | (simp; done) | (simp; omega) | (intro _ _; first | assumption | (simp only [St.set_n, St.new_n] at *; omega)) | (intro _; exact trivial) | (intro _; intro _ _; exact trivial) | (intro _; intro j hj; rfl)) ?_; conv => whnf)
          | (rw [St.set_same]; conv => whnf) | (rw [St.new_same]; conv => whnf)
          | (rw [St.set_ne _ _ (by first | assumption | omega | (simp only [St.set_n, St.new_n] at *; omega))]; conv => whnf)
          | (rw [St.new_ne _ _ (by first | assumption | omega | (simp only [St.set_n, St.new_n] at *; omega))]; conv => whnf))
        have hne : ((s.take (i + n)).drop i) ≠ [] := by intro q; have := congrArg List.length q; rw [← hS, List.length_take, hdl] at this; have := nameLen_pos (c := s.getD i 0) (r := s.drop (i + 1)) (by unfold isName; rw [hdg]; simp); rw [← one_drop hi, hnl] at this; simp at *; omega
        have hh : ((s.take (i + n)).drop i).getD 0 0 = s.getD i 0 := by have h1 : 1 ≤ n := (by have := nameLen_pos (c := s.getD i 0) (r := s.drop (i + 1)) (by unfold isName; rw [hdg]; simp); rw [← one_drop hi, hnl] at this; exact this); rw [← hS, one_drop hi]; obtain ⟨n0, rfl⟩ : ∃ n0, n = n0 + 1 := ⟨n - 1, by omega⟩; rfl
        refine ACallsW.of (zparse_ok ((s.take (i + n)).drop i) (by rw [List.length_drop, List.length_take]; omega) hne (by rw [hh]; exact hdg) _ Non) (fun _ _ _ h => h.elim) ?_
        rintro _ _ _ ⟨e1, rfl⟩
        have e2 := e1.symm
        subst e2
        cases hnum : numOf ((s.take (i + n)).drop i) with
        | ok v =>
          have hv := numOf_ok hnum
          have e3 : parseA ((s.take (i + n)).drop i) = .tup [.int .u64 (2 * (v : Int) + 1), .int .i64 0] := by rw [parseA, hnum]
          rw [e3]
          rw [hnum] at htok
          conv => whnf
          repeat' (first
            | (refine Bc_t ?_; conv => whnf) | (refine Bc_f ?_; conv => whnf) | (rw [g1]; conv => whnf) | (rw [g2]; conv => whnf) | (rw [g3]; conv => whnf) | (rw [g4]; conv => whnf)
            | (rw [g5]; conv => whnf) | (rw [g6]; conv => whnf) | (rw [g7]; conv => whnf) | (rw [hr]; conv => whnf)
            | (refine And.intro (by first | omega | assumption | (simp only [St.set_n, St.new_n] at *; omega) | (simp; done) | (simp; omega) | (intro _ _; first | assumption | (simp only [St.set_n, St.new_n] at *; omega)) | (intro _; exact trivial) | (intro _; intro _ _; exact trivial) | (intro _; intro j hj; rfl)) ?_; conv => whnf)
            | (rw [St.set_same]; conv => whnf) | (rw [St.new_same]; conv => whnf)
            | (rw [St.set_ne _ _ (by first | assumption | omega | (simp only [St.set_n, St.new_n] at *; omega))]; conv => whnf)
            | (rw [St.new_ne _ _ (by first | assumption | omega | (simp only [St.set_n, St.new_n] at *; omega))]; conv => whnf))
          refine ACallsW.of (rnum_ok v (by omega) (by omega) _ Non) (fun _ _ _ h => h.elim) ?_
          rintro _ _ _ ⟨e1, rfl⟩
          have e2 := e1.symm
          subst e2
          rw [if_pos (by omega)]
          conv => whnf
          repeat' (first
            | (refine Bc_t ?_; conv => whnf) | (refine Bc_f ?_; conv => whnf) | (rw [g1]; conv => whnf) | (rw [g2]; conv => whnf) | (rw [g3]; conv => whnf) | (rw [g4]; conv => whnf)
            | (rw [g5]; conv => whnf) | (rw [g6]; conv => whnf) | (rw [g7]; conv => whnf) | (rw [hr]; conv => whnf)
            | (refine And.intro (by first | omega | assumption | (simp only [St.set_n, St.new_n] at *; omega) | (simp; done) | (simp; omega) | (intro _ _; first | assumption | (simp only [St.set_n, St.new_n] at *; omega)) | (intro _; exact trivial) | (intro _; intro _ _; exact trivial) | (intro _; intro j hj; rfl)) ?_; conv => whnf)
            | (rw [St.set_same]; conv => whnf) | (rw [St.new_same]; conv => whnf)
            | (rw [St.set_ne _ _ (by first | assumption | omega | (simp only [St.set_n, St.new_n] at *; omega))]; conv => whnf)
            | (rw [St.new_ne _ _ (by first | assumption | omega | (simp only [St.set_n, St.new_n] at *; omega))]; conv => whnf))
          exact Fin.of (by rw [show oneA s i = .tup [tokA 1 i v [], .int .i64 n, .int .i64 0] by unfold oneA; rw [htok]; show A.tup [tokA 1 i v [], .int .i64 ((s.length - i - ((s.drop i).drop n).length : Nat)), .int .i64 0] = _; rw [hn2]]; rfl)
        | error k =>
          have e3 : parseA ((s.take (i + n)).drop i) = .tup [.int .u64 0, .int .i64 k] := by rw [parseA, hnum]
          rw [e3]
          rw [hnum] at htok
          rcases numOf_err hnum with rfl | rfl
          · conv => whnf
            repeat' (first
              | (refine Bc_t ?_; conv => whnf) | (refine Bc_f ?_; conv => whnf) | (rw [g1]; conv => whnf) | (rw [g2]; conv => whnf) | (rw [g3]; conv => whnf) | (rw [g4]; conv => whnf)
              | (rw [g5]; conv => whnf) | (rw [g6]; conv => whnf) | (rw [g7]; conv => whnf) | (rw [hr]; conv => whnf)
              | (refine And.intro (by first | omega | assumption | (simp only [St.set_n, St.new_n] at *; omega) | (simp; done) | (simp; omega) | (intro _ _; first | assumption | (simp only [St.set_n, St.new_n] at *; omega)) | (intro _; exact trivial) | (intro _; intro _ _; exact trivial) | (intro _; intro j hj; rfl)) ?_; conv => whnf)
              | (rw [St.set_same]; conv => whnf) | (rw [St.new_same]; conv => whnf)
              | (rw [St.set_ne _ _ (by first | assumption | omega | (simp only [St.set_n, St.new_n] at *; omega))]; conv => whnf)
              | (rw [St.new_ne _ _ (by first | assumption | omega | (simp only [St.set_n, St.new_n] at *; omega))]; conv => whnf))
            exact Fin.of (by rw [show oneA s i = .tup [tokA 0 i 0 [], .int .i64 0, .int .i64 20] by unfold oneA; rw [htok]; rfl]; rfl)
          · conv => whnf
            repeat' (first
              | (refine Bc_t ?_; conv => whnf) | (refine Bc_f ?_; conv => whnf) | (rw [g1]; conv => whnf) | (rw [g2]; conv => whnf) | (rw [g3]; conv => whnf) | (rw [g4]; conv => whnf)
              | (rw [g5]; conv => whnf) | (rw [g6]; conv => whnf) | (rw [g7]; conv => whnf) | (rw [hr]; conv => whnf)
              | (refine And.intro (by first | omega | assumption | (simp only [St.set_n, St.new_n] at *; omega) | (simp; done) | (simp; omega) | (intro _ _; first | assumption | (simp only [St.set_n, St.new_n] at *; omega)) | (intro _; exact trivial) | (intro _; intro _ _; exact trivial) | (intro _; intro j hj; rfl)) ?_; conv => whnf)
              | (rw [St.set_same]; conv => whnf) | (rw [St.new_same]; conv => whnf)
              | (rw [St.set_ne _ _ (by first | assumption | omega | (simp only [St.set_n, St.new_n] at *; omega))]; conv => whnf)
              | (rw [St.new_ne _ _ (by first | assumption | omega | (simp only [St.set_n, St.new_n] at *; omega))]; conv => whnf))
            exact Fin.of (by rw [show oneA s i = .tup [tokA 0 i 0 [], .int .i64 0, .int .i64 2] by unfold oneA; rw [htok]; rfl]; rfl)
      | false =>
        rw [if_neg (by rw [hdg]; simp)] at htok
        cases h34 : ((s.getD i 0) == 34) with
        | true =>
          rw [if_pos h34] at htok
          have g5 : (((s.getD (i : Int).toNat 0).toNat : Int) == 34) = true := by rw [hgi]; exact (u8_beqz (s.getD i 0) 34).trans h34
          conv => whnf
          repeat' (first
            | (refine Bc_t ?_; conv => whnf) | (refine Bc_f ?_; conv => whnf) | (rw [g1]; conv => whnf) | (rw [g2]; conv => whnf) | (rw [g3]; conv => whnf) | (rw [g4]; conv => whnf)
            | (rw [g5]; conv => whnf) | (rw [g6]; conv => whnf) | (rw [g7]; conv => whnf) | (rw [hr]; conv => whnf)
            | (refine And.intro (by first | omega | assumption | (simp only [St.set_n, St.new_n] at *; omega) | (simp; done) | (simp; omega) | (intro _ _; first | assumption | (simp only [St.set_n, St.new_n] at *; omega)) | (intro _; exact trivial) | (intro _; intro _ _; exact trivial) | (intro _; intro j hj; rfl)) ?_; conv => whnf)
            | (rw [St.set_same]; conv => whnf) | (rw [St.new_same]; conv => whnf)
            | (rw [St.set_ne _ _ (by first | assumption | omega | (simp only [St.set_n, St.new_n] at *; omega))]; conv => whnf)
            | (rw [St.new_ne _ _ (by first | assumption | omega | (simp only [St.set_n, St.new_n] at *; omega))]; conv => whnf))
          refine ACallsW.of (ztext_ok s i (by omega) hi _ Non) (fun _ _ _ h => h.elim) ?_
          rintro _ _ _ ⟨e1, rfl⟩
          have e2 := e1.symm
          subst e2
          cases ht : txt 0 0 (s.drop (i + 1)) with
          | none =>
            have e3 : textA s i = .tup [.str [], .int .i64 0] := by rw [textA, ht]
            rw [e3]
            rw [ht] at htok
            conv => whnf
            repeat' (first
              | (refine Bc_t ?_; conv => whnf) | (refine Bc_f ?_; conv => whnf) | (rw [g1]; conv => whnf) | (rw [g2]; conv => whnf) | (rw [g3]; conv => whnf) | (rw [g4]; conv => whnf)
              | (rw [g5]; conv => whnf) | (rw [g6]; conv => whnf) | (rw [g7]; conv => whnf) | (rw [hr]; conv => whnf)
              | (refine And.intro (by first | omega | assumption | (simp only [St.set_n, St.new_n] at *; omega) | (simp; done) | (simp; omega) | (intro _ _; first | assumption | (simp only [St.set_n, St.new_n] at *; omega)) | (intro _; exact trivial) | (intro _; intro _ _; exact trivial) | (intro _; intro j hj; rfl)) ?_; conv => whnf)
              | (rw [St.set_same]; conv => whnf) | (rw [St.new_same]; conv => whnf)
              | (rw [St.set_ne _ _ (by first | assumption | omega | (simp only [St.set_n, St.new_n] at *; omega))]; conv => whnf)
              | (rw [St.new_ne _ _ (by first | assumption | omega | (simp only [St.set_n, St.new_n] at *; omega))]; conv => whnf))
            exact Fin.of (by rw [show oneA s i = .tup [tokA 0 i 0 [], .int .i64 0, .int .i64 20] by unfold oneA; rw [htok]; rfl]; rfl)
          | some p =>
            obtain ⟨v, l⟩ := p
            obtain ⟨f1, f2⟩ := txt_suf _ _ _ _ _ ht
            have f3 := f1.length_le
            rw [List.length_drop] at f2
            have e3 : textA s i = .tup [.str v, .int .i64 ((s.length - i - l.length : Nat))] := by rw [textA, ht]; show A.tup [.str v, .int .i64 ((s.length - l.length - i : Nat))] = _; rw [show s.length - l.length - i = s.length - i - l.length by omega]
            rw [e3]
            rw [ht] at htok
            generalize hnn : s.length - i - l.length = nn
            clear g5
            have g5 : ((nn : Int) == 0) = false := beq_eq_false_iff_ne.2 (by omega)
            conv => whnf
            repeat' (first
              | (refine Bc_t ?_; conv => whnf) | (refine Bc_f ?_; conv => whnf) | (rw [g1]; conv => whnf) | (rw [g2]; conv => whnf) | (rw [g3]; conv => whnf) | (rw [g4]; conv => whnf)
              | (rw [g5]; conv => whnf) | (rw [g6]; conv => whnf) | (rw [g7]; conv => whnf) | (rw [hr]; conv => whnf)
              | (refine And.intro (by first | omega | assumption | (simp only [St.set_n, St.new_n] at *; omega) | (simp; done) | (simp; omega) | (intro _ _; first | assumption | (simp only [St.set_n, St.new_n] at *; omega)) | (intro _; exact trivial) | (intro _; intro _ _; exact trivial) | (intro _; intro j hj; rfl)) ?_; conv => whnf)
              | (rw [St.set_same]; conv => whnf) | (rw [St.new_same]; conv => whnf)
              | (rw [St.set_ne _ _ (by first | assumption | omega | (simp only [St.set_n, St.new_n] at *; omega))]; conv => whnf)
              | (rw [St.new_ne _ _ (by first | assumption | omega | (simp only [St.set_n, St.new_n] at *; omega))]; conv => whnf))
            exact Fin.of (by rw [show oneA s i = .tup [tokA 2 i 0 v, .int .i64 nn, .int .i64 0] by unfold oneA; rw [htok]; show A.tup [tokA 2 i 0 v, .int .i64 ((s.length - i - l.length : Nat)), .int .i64 0] = _; rw [hnn]]; rfl)
        | false =>
          rw [if_neg (by rw [h34]; simp)] at htok
          have g5 : (((s.getD (i : Int).toNat 0).toNat : Int) == 34) = false := by rw [hgi]; exact (u8_beqz (s.getD i 0) 34).trans h34
          conv => whnf
          repeat' (first
            | (refine Bc_t ?_; conv => whnf) | (refine Bc_f ?_; conv => whnf) | (rw [g1]; conv => whnf) | (rw [g2]; conv => whnf) | (rw [g3]; conv => whnf) | (rw [g4]; conv => whnf)
            | (rw [g5]; conv => whnf) | (rw [g6]; conv => whnf) | (rw [g7]; conv => whnf) | (rw [hr]; conv => whnf)
            | (refine And.intro (by first | omega | assumption | (simp only [St.set_n, St.new_n] at *; omega) | (simp; done) | (simp; omega) | (intro _ _; first | assumption | (simp only [St.set_n, St.new_n] at *; omega)) | (intro _; exact trivial) | (intro _; intro _ _; exact trivial) | (intro _; intro j hj; rfl)) ?_; conv => whnf)
            | (rw [St.set_same]; conv => whnf) | (rw [St.new_same]; conv => whnf)
            | (rw [St.set_ne _ _ (by first | assumption | omega | (simp only [St.set_n, St.new_n] at *; omega))]; conv => whnf)
            | (rw [St.new_ne _ _ (by first | assumption | omega | (simp only [St.set_n, St.new_n] at *; omega))]; conv => whnf))
          refine ACallsW.of (zsigns_ok _ Non) (fun _ _ _ h => h.elim) ?_
          rintro _ _ _ ⟨e1, rfl⟩
          have e2 := e1.symm
          subst e2
          have hlenR : signR.length = 33 := by decide +kernel
          have hfirst : ∀ k x, signR[k]? = some x → x <+: s.drop i → (∀ y ∈ signR.take k, ¬ y <+: s.drop i) → signOf (s.drop i) = x := fun k x a b c => signR_first a b c
          have hnone : (∀ y ∈ signR, ¬ y <+: s.drop i) → signOf (s.drop i) = [] := signR_none
          have hsml := signR_small
          generalize signR = L at hlenR hfirst hnone hsml ⊢
          conv => whnf
          repeat' (first
            | (refine Bc_t ?_; conv => whnf) | (refine Bc_f ?_; conv => whnf) | (rw [g1]; conv => whnf) | (rw [g2]; conv => whnf) | (rw [g3]; conv => whnf) | (rw [g4]; conv => whnf)
            | (rw [g5]; conv => whnf) | (rw [g6]; conv => whnf) | (rw [g7]; conv => whnf) | (rw [hr]; conv => whnf)
            | (refine And.intro (by first | omega | assumption | (simp only [St.set_n, St.new_n] at *; omega) | (simp; done) | (simp; omega) | (intro _ _; first | assumption | (simp only [St.set_n, St.new_n] at *; omega)) | (intro _; exact trivial) | (intro _; intro _ _; exact trivial) | (intro _; intro j hj; rfl)) ?_; conv => whnf)
            | (rw [St.set_same]; conv => whnf) | (rw [St.new_same]; conv => whnf)
            | (rw [St.set_ne _ _ (by first | assumption | omega | (simp only [St.set_n, St.new_n] at *; omega))]; conv => whnf)
            | (rw [St.new_ne _ _ (by first | assumption | omega | (simp only [St.set_n, St.new_n] at *; omega))]; conv => whnf))
          refine ⟨fun k env σ2 => ∃ j : Nat, k = 33 - j ∧ j ≤ 33 ∧ (∀ y ∈ L.take j, ¬ y <+: s.drop i) ∧ σ2 = σ1 ∧ env = [(0, .str s), (1, .int .i64 i), (4, .ptr σ.n 0), (7, .ptr (σ.n + 1) 0), (14, .sl .full 1 (L.map A.str)), (15, .int .i64 j)], _,
            [(0, .str s), (1, .int .i64 i), (4, .ptr σ.n 0), (7, .ptr (σ.n + 1) 0), (14, .sl .full 1 (L.map A.str)), (15, .int .i64 0)], ⟨rfl, rfl, rfl, rfl, rfl, rfl, trivial⟩, ⟨0, rfl, by omega, fun y hy => (by simp at hy), rfl, rfl⟩, ?_⟩
          rintro k env σ2 ⟨j, rfl, hj, hno, rfl, rfl⟩
          clear hr
          by_cases hj33 : j < 33
          · obtain ⟨x, hx⟩ : ∃ x, L[j]? = some x := ⟨_, List.getElem?_eq_getElem (by omega)⟩
            have hxm := hsml x (List.mem_of_getElem? hx)
            have g6 : (L.map A.str)[(j : Int).toNat]? = some (A.str x) := by show (L.map A.str)[j]? = _; rw [List.getElem?_map, hx]; rfl
            have g7 : decide ((j : Int) < (L.map A.str).length) = true := by rw [List.length_map, hlenR]; exact decide_eq_true (by omega)
            conv => whnf
            repeat' (first
              | (refine Bc_t ?_; conv => whnf) | (refine Bc_f ?_; conv => whnf) | (rw [g1]; conv => whnf) | (rw [g2]; conv => whnf) | (rw [g3]; conv => whnf) | (rw [g4]; conv => whnf)
              | (rw [g5]; conv => whnf) | (rw [g6]; conv => whnf) | (rw [g7]; conv => whnf) | (rw [hr]; conv => whnf)
              | (refine And.intro (by first | omega | assumption | (simp only [St.set_n, St.new_n] at *; omega) | (simp; done) | (simp; omega) | (intro _ _; first | assumption | (simp only [St.set_n, St.new_n] at *; omega)) | (intro _; exact trivial) | (intro _; intro _ _; exact trivial) | (intro _; intro j hj; rfl)) ?_; conv => whnf)
              | (rw [St.set_same]; conv => whnf) | (rw [St.new_same]; conv => whnf)
              | (rw [St.set_ne _ _ (by first | assumption | omega | (simp only [St.set_n, St.new_n] at *; omega))]; conv => whnf)
              | (rw [St.new_ne _ _ (by first | assumption | omega | (simp only [St.set_n, St.new_n] at *; omega))]; conv => whnf))
            refine ACallsW.of (zat_ok s x i (by omega) (by omega) (by omega) _ Non) (fun _ _ _ h => h.elim) ?_
            rintro _ _ _ ⟨e1, rfl⟩
            have e2 := e1.symm
            subst e2
            cases hpx : x.isPrefixOf (s.drop i) with
            | true =>
              have hpp := List.isPrefixOf_iff_prefix.1 hpx
              have hso := hfirst j x hx hpp hno
              have hpl := hpp.length_le
              rw [hso, if_neg hxm.2] at htok
              conv => whnf
              repeat' (first
                | (refine Bc_t ?_; conv => whnf) | (refine Bc_f ?_; conv => whnf) | (rw [g1]; conv => whnf) | (rw [g2]; conv => whnf) | (rw [g3]; conv => whnf) | (rw [g4]; conv => whnf)
                | (rw [g5]; conv => whnf) | (rw [g6]; conv => whnf) | (rw [g7]; conv => whnf) | (rw [hr]; conv => whnf)
                | (refine And.intro (by first | omega | assumption | (simp only [St.set_n, St.new_n] at *; omega) | (simp; done) | (simp; omega) | (intro _ _; first | assumption | (simp only [St.set_n, St.new_n] at *; omega)) | (intro _; exact trivial) | (intro _; intro _ _; exact trivial) | (intro _; intro j hj; rfl)) ?_; conv => whnf)
                | (rw [St.set_same]; conv => whnf) | (rw [St.new_same]; conv => whnf)
                | (rw [St.set_ne _ _ (by first | assumption | omega | (simp only [St.set_n, St.new_n] at *; omega))]; conv => whnf)
                | (rw [St.new_ne _ _ (by first | assumption | omega | (simp only [St.set_n, St.new_n] at *; omega))]; conv => whnf))
              refine Exists.intro (fun id _ => id = σ.n + 1) ?_
              conv => whnf
              repeat' (first
                | (refine Bc_t ?_; conv => whnf) | (refine Bc_f ?_; conv => whnf) | (rw [g1]; conv => whnf) | (rw [g2]; conv => whnf) | (rw [g3]; conv => whnf) | (rw [g4]; conv => whnf)
                | (rw [g5]; conv => whnf) | (rw [g6]; conv => whnf) | (rw [g7]; conv => whnf) | (rw [hr]; conv => whnf)
                | (refine And.intro (by first | omega | assumption | (simp only [St.set_n, St.new_n] at *; omega) | (simp; done) | (simp; omega) | (intro _ _; first | assumption | (simp only [St.set_n, St.new_n] at *; omega)) | (intro _; exact trivial) | (intro _; intro _ _; exact trivial) | (intro _; intro j hj; rfl)) ?_; conv => whnf)
                | (rw [St.set_same]; conv => whnf) | (rw [St.new_same]; conv => whnf)
                | (rw [St.set_ne _ _ (by first | assumption | omega | (simp only [St.set_n, St.new_n] at *; omega))]; conv => whnf)
                | (rw [St.new_ne _ _ (by first | assumption | omega | (simp only [St.set_n, St.new_n] at *; omega))]; conv => whnf))
              refine And.intro (fun j _ => ⟨Nat.le_refl _, fun q => by have q2 : σ.n = σ.n + 1 := q; omega⟩) ?_
              conv => whnf
              repeat' (first
                | (refine Bc_t ?_; conv => whnf) | (refine Bc_f ?_; conv => whnf) | (rw [g1]; conv => whnf) | (rw [g2]; conv => whnf) | (rw [g3]; conv => whnf) | (rw [g4]; conv => whnf)
                | (rw [g5]; conv => whnf) | (rw [g6]; conv => whnf) | (rw [g7]; conv => whnf) | (rw [hr]; conv => whnf)
                | (refine And.intro (by first | omega | assumption | (simp only [St.set_n, St.new_n] at *; omega) | (simp; done) | (simp; omega) | (intro _ _; first | assumption | (simp only [St.set_n, St.new_n] at *; omega)) | (intro _; exact trivial) | (intro _; intro _ _; exact trivial) | (intro _; intro j hj; rfl)) ?_; conv => whnf)
                | (rw [St.set_same]; conv => whnf) | (rw [St.new_same]; conv => whnf)
                | (rw [St.set_ne _ _ (by first | assumption | omega | (simp only [St.set_n, St.new_n] at *; omega))]; conv => whnf)
                | (rw [St.new_ne _ _ (by first | assumption | omega | (simp only [St.set_n, St.new_n] at *; omega))]; conv => whnf))
              exact Fin.of (by rw [show oneA s i = .tup [tokA 5 i 0 x, .int .i64 x.length, .int .i64 0] by unfold oneA; rw [htok]; show A.tup [tokA 5 i 0 x, .int .i64 ((s.length - i - ((s.drop i).drop x.length).length : Nat)), .int .i64 0] = _; rw [List.length_drop, hdl, show s.length - i - (s.length - i - x.length) = x.length by omega]]; rfl)
            | false =>
              conv => whnf
              repeat' (first
                | (refine Bc_t ?_; conv => whnf) | (refine Bc_f ?_; conv => whnf) | (rw [g1]; conv => whnf) | (rw [g2]; conv => whnf) | (rw [g3]; conv => whnf) | (rw [g4]; conv => whnf)
                | (rw [g5]; conv => whnf) | (rw [g6]; conv => whnf) | (rw [g7]; conv => whnf) | (rw [hr]; conv => whnf)
                | (refine And.intro (by first | omega | assumption | (simp only [St.set_n, St.new_n] at *; omega) | (simp; done) | (simp; omega) | (intro _ _; first | assumption | (simp only [St.set_n, St.new_n] at *; omega)) | (intro _; exact trivial) | (intro _; intro _ _; exact trivial) | (intro _; intro j hj; rfl)) ?_; conv => whnf)
                | (rw [St.set_same]; conv => whnf) | (rw [St.new_same]; conv => whnf)
                | (rw [St.set_ne _ _ (by first | assumption | omega | (simp only [St.set_n, St.new_n] at *; omega))]; conv => whnf)
                | (rw [St.new_ne _ _ (by first | assumption | omega | (simp only [St.set_n, St.new_n] at *; omega))]; conv => whnf))
              refine ⟨_, [(0, .str s), (1, .int .i64 i), (4, .ptr σ.n 0), (7, .ptr (σ.n + 1) 0), (14, .sl .full 1 (L.map A.str)), (15, .int .i64 (j + 1 : Nat))], ?_, ⟨rfl, rfl, rfl, rfl, rfl, int_eq (by rw [w64 (by omega) (by omega)]; omega), trivial⟩, j + 1, rfl, by omega, fun y hy => ?_, rfl, rfl⟩
              · omega
              · rw [List.take_add_one, hx] at hy
                rcases List.mem_append.1 hy with q | q
                · exact hno y q
                · simp at q; rw [q]; exact fun w => absurd (List.isPrefixOf_iff_prefix.2 w) (by rw [hpx]; simp)
          · obtain rfl : j = 33 := by omega
            have g7 : decide (((33 : Nat) : Int) < (L.map A.str).length) = false := by rw [List.length_map, hlenR]; decide
            rw [← hlenR, List.take_length] at hno
            rw [hnone hno, if_pos rfl] at htok
            conv => whnf
            repeat' (first
              | (refine Bc_t ?_; conv => whnf) | (refine Bc_f ?_; conv => whnf) | (rw [g1]; conv => whnf) | (rw [g2]; conv => whnf) | (rw [g3]; conv => whnf) | (rw [g4]; conv => whnf)
              | (rw [g5]; conv => whnf) | (rw [g6]; conv => whnf) | (rw [g7]; conv => whnf) | (rw [hr]; conv => whnf)
              | (refine And.intro (by first | omega | assumption | (simp only [St.set_n, St.new_n] at *; omega) | (simp; done) | (simp; omega) | (intro _ _; first | assumption | (simp only [St.set_n, St.new_n] at *; omega)) | (intro _; exact trivial) | (intro _; intro _ _; exact trivial) | (intro _; intro j hj; rfl)) ?_; conv => whnf)
              | (rw [St.set_same]; conv => whnf) | (rw [St.new_same]; conv => whnf)
              | (rw [St.set_ne _ _ (by first | assumption | omega | (simp only [St.set_n, St.new_n] at *; omega))]; conv => whnf)
              | (rw [St.new_ne _ _ (by first | assumption | omega | (simp only [St.set_n, St.new_n] at *; omega))]; conv => whnf))
            exact Fin.of (by rw [show oneA s i = .tup [tokA 0 i 0 [], .int .i64 0, .int .i64 20] by unfold oneA; rw [htok]; rfl]; rfl)
end
end Go.Proofs.YtjeccchbeflddaaGreatDoor.Ga
