/- Numbers: the words' layer. -/
import Derived.Test.YtjeccchbeflddaaDoorLa5
set_option linter.unusedVariables false
set_option linter.unusedSimpArgs false
namespace Go.Proofs.YtjeccchbeflddaaDoor.Ga
open Lx

def c_int : SFun := ⟨7, (.seq (.reg [⟨(some 2), (.mov (.const (.int .u64 0))), none⟩]) (.seq (.reg [⟨(some 3), (.mov (.tmp 0)), none⟩, ⟨(some 4), (.toInt .u64 (.tmp 3)), none⟩, ⟨(some 5), (.bin .shl .none (.tmp 4) (.const (.int .u64 1))), none⟩, ⟨(some 6), (.bin .or .none (.tmp 5) (.const (.int .u64 1))), none⟩, ⟨(some 2), (.mov (.tmp 6)), none⟩]) .ret)), [(.tmp 2)]⟩
theorem c_int_ok : cFun Tryd.prog Tryd.f19 = some c_int := by kernel_rfl
def c_num : SFun := ⟨6, (.seq (.reg [⟨(some 2), (.mov (.const (.int .i64 0))), none⟩]) (.seq (.reg [⟨(some 3), (.mov (.tmp 0)), none⟩, ⟨(some 4), (.toInt .i64 (.tmp 3)), none⟩, ⟨(some 5), (.bin .shr .none (.tmp 4) (.const (.int .u64 1))), none⟩, ⟨(some 2), (.mov (.tmp 5)), none⟩]) .ret)), [(.tmp 2)]⟩
theorem c_num_ok : cFun Tryd.prog Tryd.f29 = some c_num := by kernel_rfl
def c_parse : SFun := ⟨62, (.seq (.reg [⟨(some 2), (.mov (.const (.int .u64 0))), none⟩, ⟨(some 3), (.mov (.const (.int .i64 0))), none⟩]) (.seq (.reg [⟨(some 9), (.mov (.tmp 0)), none⟩, ⟨(some 10), (.call 60 [(.tmp 9), (.const (.str [45]))]), none⟩, ⟨(some 8), (.mov (.tmp 10)), none⟩, ⟨(some 11), (.extract (.tmp 8) 0), none⟩, ⟨(some 12), (.extract (.tmp 8) 1), none⟩, ⟨(some 4), (.mov (.tmp 11)), none⟩, ⟨(some 5), (.mov (.tmp 12)), none⟩]) (.seq (.seq (.reg [⟨(some 13), (.mov (.tmp 4)), none⟩, ⟨(some 14), (.bin .eql .none (.tmp 13) (.const (.str []))), none⟩, ⟨(some 15), (.mov (.tmp 14)), none⟩, ⟨(some 16), (.mov (.tmp 4)), (some (15, false))⟩, ⟨(some 17), (.call 61 [(.tmp 16), (.const (.str [48, 49, 50, 51, 52, 53, 54, 55, 56, 57]))]), (some (15, false))⟩, ⟨(some 18), (.bin .neq .none (.tmp 17) (.const (.str []))), (some (15, false))⟩, ⟨(some 19), (.pick (.tmp 15) (.const (.bool true)) (.tmp 18)), none⟩, ⟨(some 20), (.mov (.tmp 19)), none⟩, ⟨(some 21), (.mov (.tmp 4)), (some (20, false))⟩, ⟨(some 22), (.idxStr (.tmp 21) (.const (.int .i64 0))), (some (20, false))⟩, ⟨(some 23), (.bin .eql .none (.tmp 22) (.const (.int .u8 48))), (some (20, false))⟩, ⟨(some 24), (.mov (.tmp 23)), (some (20, false))⟩, ⟨(some 25), (.mov (.tmp 4)), (some (24, true))⟩, ⟨(some 26), (.len .str (.tmp 25)), (some (24, true))⟩, ⟨(some 27), (.bin .gtr .none (.tmp 26) (.const (.int .i64 1))), (some (24, true))⟩, ⟨(some 28), (.mov (.tmp 27)), (some (24, true))⟩, ⟨(some 29), (.mov (.tmp 5)), (some (28, false))⟩, ⟨(some 30), (.pick (.tmp 28) (.const (.bool true)) (.tmp 29)), (some (24, true))⟩, ⟨(some 31), (.pick (.tmp 24) (.tmp 30) (.const (.bool false))), (some (20, false))⟩, ⟨(some 32), (.pick (.tmp 20) (.const (.bool true)) (.tmp 31)), none⟩]) (.cond (.tmp 32) (.seq (.reg [⟨(some 2), (.mov (.const (.int .u64 0))), none⟩, ⟨(some 3), (.mov (.const (.int .i64 5))), none⟩]) .ret) .skip)) (.seq (.reg [⟨(some 34), (.mov (.tmp 4)), none⟩, ⟨(some 35), (.call 62 [(.tmp 34), (.const (.int .i64 10)), (.const (.int .i64 64))]), none⟩, ⟨(some 33), (.mov (.tmp 35)), none⟩, ⟨(some 36), (.extract (.tmp 33) 0), none⟩, ⟨(some 37), (.extract (.tmp 33) 1), none⟩, ⟨(some 6), (.mov (.tmp 36)), none⟩, ⟨(some 7), (.mov (.tmp 37)), none⟩]) (.seq (.block 0 (.seq (.reg [⟨(some 39), (.mov (.tmp 7)), none⟩, ⟨(some 40), (.isnil true .iface (.tmp 39)), none⟩, ⟨(some 41), (.mov (.tmp 40)), none⟩, ⟨(some 42), (.mov (.tmp 6)), (some (41, false))⟩, ⟨(some 43), (.bin .gtr .none (.tmp 42) (.const (.int .u64 4611686018427387904))), (some (41, false))⟩, ⟨(some 44), (.pick (.tmp 41) (.const (.bool true)) (.tmp 43)), none⟩, ⟨(some 45), (.mov (.tmp 44)), none⟩, ⟨(some 46), (.mov (.tmp 6)), (some (45, false))⟩, ⟨(some 47), (.bin .eql .none (.tmp 46) (.const (.int .u64 4611686018427387904))), (some (45, false))⟩, ⟨(some 48), (.mov (.tmp 47)), (some (45, false))⟩, ⟨(some 49), (.mov (.tmp 5)), (some (48, true))⟩, ⟨(some 50), (.un .not (.tmp 49)), (some (48, true))⟩, ⟨(some 51), (.pick (.tmp 48) (.tmp 50) (.const (.bool false))), (some (45, false))⟩, ⟨(some 52), (.pick (.tmp 45) (.const (.bool true)) (.tmp 51)), none⟩, ⟨(some 38), (.mov (.tmp 52)), none⟩]) (.cond (.tmp 38) (.seq (.reg [⟨(some 2), (.mov (.const (.int .u64 0))), none⟩, ⟨(some 3), (.mov (.const (.int .i64 2))), none⟩]) .ret) (.seq (.reg [⟨(some 54), (.mov (.tmp 5)), none⟩, ⟨(some 53), (.mov (.tmp 54)), none⟩]) (.cond (.tmp 53) (.seq (.reg [⟨(some 55), (.mov (.tmp 6)), none⟩, ⟨(some 56), (.toInt .i64 (.tmp 55)), none⟩, ⟨(some 57), (.un .neg (.tmp 56)), none⟩, ⟨(some 58), (.call 19 [(.tmp 57)]), none⟩, ⟨(some 2), (.mov (.tmp 58)), none⟩, ⟨(some 3), (.mov (.const (.int .i64 0))), none⟩]) .ret) .skip))))) (.seq (.reg [⟨(some 59), (.mov (.tmp 6)), none⟩, ⟨(some 60), (.toInt .i64 (.tmp 59)), none⟩, ⟨(some 61), (.call 19 [(.tmp 60)]), none⟩, ⟨(some 2), (.mov (.tmp 61)), none⟩, ⟨(some 3), (.mov (.const (.int .i64 0))), none⟩]) .ret)))))), [(.tmp 2), (.tmp 3)]⟩
theorem c_parse_ok : cFun Tryd.prog Tryd.f48 = some c_parse := by kernel_rfl

theorem wu64 {n : Int} (h0 : 0 ≤ n) (h1 : n < 18446744073709551616) : IntKind.u64.wrap n = n := by
  unfold IntKind.wrap; simp [IntKind.bits, IntKind.signed]; omega

theorem or_one (n : Nat) (h : n < 4611686018427387904) : ((BitVec.ofInt 64 ((n : Int) * 2 ^ 1) ||| BitVec.ofInt 64 1).toNat : Int) = 2 * n + 1 := by
  have e1 : BitVec.ofInt 64 ((n : Int) * 2 ^ 1) = BitVec.ofNat 64 (2 * n) := by
    rw [show ((n : Int) * 2 ^ 1) = ((2 * n : Nat) : Int) by omega]; rfl
  have e2 : BitVec.ofInt 64 1 = BitVec.ofNat 64 1 := rfl
  rw [e1, e2, BitVec.toNat_or, BitVec.toNat_ofNat, BitVec.toNat_ofNat, Nat.mod_eq_of_lt (by omega), Nat.mod_eq_of_lt (by omega)]
  have := Nat.shiftLeft_add_eq_or_of_lt (i := 1) (b := 1) (by decide) n
  rw [Nat.shiftLeft_eq] at this
  have h2 : 2 * n ||| 1 = 2 * n + 1 := by rw [show 2 * n = n * 2 ^ 1 by omega]; omega
  omega

section
attribute [local irreducible] Bc ACallsW ALoop Fin St.set St.new
theorem int_ok (n : Nat) (h : n < 4611686018427387904) (σ : St) (m) : ACalls Tryd.prog 19 [.int .i64 n] σ m (fun e σ' => σ' = σ ∧ e = .ret (.int .u64 (2 * n + 1))) := by
  refine acalls_go mixed Tryd.func19 c_int_ok (Nat.le_of_ble_eq_true rfl) ?_
  conv => whnf
  repeat' (first
      | (refine Bc_t ?_; conv => whnf)
      | (refine Bc_f ?_; conv => whnf)
      | (rw [g1]; conv => whnf)
      | (rw [g2]; conv => whnf)
      | (rw [g3]; conv => whnf)
      | (rw [g4]; conv => whnf)
      | (rw [g5]; conv => whnf)
      | (rw [g6]; conv => whnf)
      | (rw [hr]; conv => whnf)
      | (refine Bc_split (fun hb => ?_) (fun hb => ?_) <;> (rw [hb]; conv => whnf))
      | (refine And.intro (by first
          | omega
          | assumption
          | (simp only [St.set_n, St.new_n] at *; omega)
          | (simp; done)
          | (simp; omega)
          | (intro _; exact trivial)
          | (intro _; intro _ _; exact trivial)
          | (intro _; intro j hj; first | rfl | (have hj' : j < 1 := hj
                                                 obtain rfl : j = 0 := by omega
                                                 exact ⟨rfl, rfl⟩))
          | (intro j hj; obtain rfl : j = 0 := by omega
             first | exact ⟨rfl, rfl⟩ | exact .inl ⟨rfl, rfl⟩ | exact .inr (by omega) | exact ⟨by assumption, by assumption⟩ | assumption | trivial)
          | exact .inr (by assumption)
          | (intro j hj; exact .inr (by simp only [St.set_n, St.new_n] at *; omega))
          | (intro e he; rcases List.mem_singleton.1 he with rfl; exact ⟨rfl, rfl⟩)
          | (rw [St.set_ne _ _ (by first | assumption | omega | (simp only [St.set_n, St.new_n] at *; omega))]; assumption)
          | (rw [St.set_ne _ _ (by first | assumption | omega | (simp only [St.set_n, St.new_n] at *; omega)), St.set_ne _ _ (by first | assumption | omega | (simp only [St.set_n, St.new_n] at *; omega))]; assumption)
          | (simp only [decide_eq_true_eq, decide_eq_false_iff_not, Bool.not_eq_true, beq_iff_eq, beq_eq_false_iff_ne, ne_eq, ge_iff_le, gt_iff_lt] at *; omega)) ?_; conv => whnf)
      | (rw [St.set_same]; conv => whnf)
      | (rw [St.new_same]; conv => whnf)
      | (rw [St.set_ne _ _ (by first | assumption | omega | (simp only [St.set_n, St.new_n] at *; omega))]; conv => whnf)
      | (rw [St.new_ne _ _ (by first | assumption | omega | (simp only [St.set_n, St.new_n] at *; omega))]; conv => whnf))
  refine Fin.of ⟨rfl, congrArg (fun z => AEnd.ret (A.int .u64 z)) ?_⟩
  show IntKind.u64.wrap ((BitVec.ofInt 64 (IntKind.u64.wrap (IntKind.u64.wrap (n : Int) * 2 ^ 1)) ||| BitVec.ofInt 64 1).toNat : Int) = 2 * (n : Int) + 1
  rw [wu64 (n := (n : Int)) (by omega) (by omega), wu64 (n := (n : Int) * 2 ^ 1) (by omega) (by omega), or_one n h, wu64 (by omega) (by omega)]

theorem num_ok (n : Nat) (h : n < 4611686018427387904) (σ : St) (m) : ACalls Tryd.prog 29 [.int .u64 (2 * n + 1)] σ m (fun e σ' => σ' = σ ∧ e = .ret (.int .i64 n)) := by
  refine acalls_go mixed Tryd.func29 c_num_ok (Nat.le_of_ble_eq_true rfl) ?_
  conv => whnf
  repeat' (first
      | (refine Bc_t ?_; conv => whnf)
      | (refine Bc_f ?_; conv => whnf)
      | (rw [g1]; conv => whnf)
      | (rw [g2]; conv => whnf)
      | (rw [g3]; conv => whnf)
      | (rw [g4]; conv => whnf)
      | (rw [g5]; conv => whnf)
      | (rw [g6]; conv => whnf)
      | (rw [hr]; conv => whnf)
      | (refine Bc_split (fun hb => ?_) (fun hb => ?_) <;> (rw [hb]; conv => whnf))
      | (refine And.intro (by first
          | omega
          | assumption
          | (simp only [St.set_n, St.new_n] at *; omega)
          | (simp; done)
          | (simp; omega)
          | (intro _; exact trivial)
          | (intro _; intro _ _; exact trivial)
          | (intro _; intro j hj; first | rfl | (have hj' : j < 1 := hj
                                                 obtain rfl : j = 0 := by omega
                                                 exact ⟨rfl, rfl⟩))
          | (intro j hj; obtain rfl : j = 0 := by omega
             first | exact ⟨rfl, rfl⟩ | exact .inl ⟨rfl, rfl⟩ | exact .inr (by omega) | exact ⟨by assumption, by assumption⟩ | assumption | trivial)
          | exact .inr (by assumption)
          | (intro j hj; exact .inr (by simp only [St.set_n, St.new_n] at *; omega))
          | (intro e he; rcases List.mem_singleton.1 he with rfl; exact ⟨rfl, rfl⟩)
          | (rw [St.set_ne _ _ (by first | assumption | omega | (simp only [St.set_n, St.new_n] at *; omega))]; assumption)
          | (rw [St.set_ne _ _ (by first | assumption | omega | (simp only [St.set_n, St.new_n] at *; omega)), St.set_ne _ _ (by first | assumption | omega | (simp only [St.set_n, St.new_n] at *; omega))]; assumption)
          | (simp only [decide_eq_true_eq, decide_eq_false_iff_not, Bool.not_eq_true, beq_iff_eq, beq_eq_false_iff_ne, ne_eq, ge_iff_le, gt_iff_lt] at *; omega)) ?_; conv => whnf)
      | (rw [St.set_same]; conv => whnf)
      | (rw [St.new_same]; conv => whnf)
      | (rw [St.set_ne _ _ (by first | assumption | omega | (simp only [St.set_n, St.new_n] at *; omega))]; conv => whnf)
      | (rw [St.new_ne _ _ (by first | assumption | omega | (simp only [St.set_n, St.new_n] at *; omega))]; conv => whnf))
  refine Fin.of ⟨rfl, congrArg (fun z => AEnd.ret (A.int .i64 z)) ?_⟩
  show Int.fdiv (IntKind.i64.wrap (2 * (n : Int) + 1)) (2 ^ 1) = n
  rw [w64 (by omega) (by omega), Int.fdiv_eq_ediv_of_nonneg _ (by decide)]
  omega

end

theorem parseM_all : ∀ (t : List UInt8) (acc : Nat), t.all isDigit = true → match Lib.parseUintM (2 ^ 64 - 1) acc t with
    | .ok u => u = decVal acc t
    | .range => 2 ^ 64 ≤ decVal acc t
    | _ => False
  | [], acc, _ => rfl
  | c :: r, acc, h => by
    simp only [List.all_cons, Bool.and_eq_true] at h
    have hc : 48 ≤ c.toNat ∧ c.toNat ≤ 57 := by have := h.1; simp [isDigit] at this; exact this
    have hle := decVal_le r (acc * 10 + (c.toNat - 48))
    have e : decVal acc (c :: r) = decVal (acc * 10 + (c.toNat - 48)) r := rfl
    rw [Lib.parseUintM, if_pos hc, e]
    by_cases h1 : 1844674407370955162 ≤ acc
    · rw [if_pos h1]
      show 2 ^ 64 ≤ _
      omega
    rw [if_neg h1]
    by_cases h2 : 2 ^ 64 - 1 < acc * 10 + (c.toNat - 48)
    · rw [if_pos h2]
      show 2 ^ 64 ≤ _
      omega
    · rw [if_neg h2]
      exact parseM_all r _ h.2

theorem dropWhile_nil {p : UInt8 → Bool} : ∀ {l : List UInt8}, l.dropWhile p = [] ↔ ∀ x ∈ l, p x = true
  | [] => by simp
  | a :: l => by
    rw [List.dropWhile_cons]
    split
    · rename_i h; rw [dropWhile_nil]; simp [h]
    · rename_i h; simp; intro q; exact absurd q h

def digs : List UInt8 := [48, 49, 50, 51, 52, 53, 54, 55, 56, 57]
theorem digs_all : ∀ n : _root_.Fin 256, digs.contains (UInt8.ofNat n.val) = isDigit (UInt8.ofNat n.val) := by decide +kernel
theorem digs_has (c : UInt8) : digs.contains c = isDigit c := by simpa using digs_all ⟨c.toNat, c.toNat_lt⟩

theorem tw_mem {p : UInt8 → Bool} {x : UInt8} : ∀ {l : List UInt8}, x ∈ l.takeWhile p → p x = true
  | [], h => by simp at h
  | a :: l, h => by
    rw [List.takeWhile_cons] at h
    split at h
    · rename_i ha
      rcases List.mem_cons.1 h with rfl | q
      · exact ha
      · exact tw_mem q
    · simp at h

theorem trim_nil (t : List UInt8) : (Lib.trimS t digs == []) = t.all isDigit := by
  rw [Bool.eq_iff_iff]
  simp only [beq_iff_eq, Lib.trimS, Lib.trimLeftS, Lib.trimRightS]
  rw [dropWhile_nil, List.all_eq_true]
  constructor
  · intro h x hx
    rcases hq : isDigit x with _ | _
    · exfalso
      have hmem : x ∈ (t.reverse.dropWhile (digs.contains ·)).reverse := by
        rw [List.mem_reverse]
        have : x ∈ t.reverse := List.mem_reverse.2 hx
        rw [← List.takeWhile_append_dropWhile (p := (digs.contains ·)) (l := t.reverse), List.mem_append] at this
        rcases this with q | q
        · have := tw_mem q
          rw [digs_has, hq] at this
          cases this
        · exact q
      have := h x hmem
      rw [digs_has, hq] at this
      cases this
    · rfl
  · intro h x hx
    rw [List.mem_reverse] at hx
    have := List.mem_reverse.1 ((List.dropWhile_sublist _).subset hx)
    rw [digs_has]
    exact h x this

section
attribute [local irreducible] Bc ACallsW ALoop Fin St.set St.new

theorem parse_ok (c : UInt8) (t : List UInt8) (hc : isDigit c = true) (hs : (c :: t).length ≤ 4096) (σ : St) (hB : B0 σ.base) (m) :
    ACalls Tryd.prog 48 [.str (c :: t)] σ m (fun e σ' => σ' = σ ∧ match numOf (c :: t) with
      | .ok v => e = .ret (.tup [.int .u64 (2 * v + 1), .int .i64 0])
      | .error k => e = .ret (.tup [.int .u64 0, .int .i64 k])) := by
  have hc' : 48 ≤ c.toNat ∧ c.toNat ≤ 57 := by simp [isDigit] at hc; exact hc
  have h45 : ((45 : UInt8) == c) = false := by rw [beq_eq_false_iff_ne]; intro q; rw [← q] at hc'; revert hc'; decide
  have h1 : Lib.hasPrefix (c :: t) [45] = false := by simp [Lib.hasPrefix, List.isPrefixOf, h45]
  have h2 : Lib.trimPrefix (c :: t) [45] = c :: t := by simp [Lib.trimPrefix, h1]
  refine acalls_go mixed Tryd.func48 c_parse_ok (Nat.le_of_ble_eq_true rfl) ?_
  conv => whnf
  refine ACallsW.of (cutPrefix_ok _ _ _ Non) (fun _ _ _ h => h.elim) ?_
  rintro _ _ _ ⟨rfl, rfl⟩
  rw [h1, h2]
  conv => whnf
  repeat' (first
      | (refine Bc_t ?_; conv => whnf)
      | (refine Bc_f ?_; conv => whnf)
      | (rw [g1]; conv => whnf)
      | (rw [g2]; conv => whnf)
      | (rw [g3]; conv => whnf)
      | (rw [g4]; conv => whnf)
      | (rw [g5]; conv => whnf)
      | (rw [g6]; conv => whnf)
      | (rw [hr]; conv => whnf)
      | (refine Bc_split (fun hb => ?_) (fun hb => ?_) <;> (rw [hb]; conv => whnf))
      | (refine And.intro (by first
          | omega
          | assumption
          | (simp only [St.set_n, St.new_n] at *; omega)
          | (simp; done)
          | (simp; omega)
          | (intro _; exact trivial)
          | (intro _; intro _ _; exact trivial)
          | (intro _; intro j hj; first | rfl | (have hj' : j < 1 := hj
                                                 obtain rfl : j = 0 := by omega
                                                 exact ⟨rfl, rfl⟩))
          | (intro j hj; obtain rfl : j = 0 := by omega
             first | exact ⟨rfl, rfl⟩ | exact .inl ⟨rfl, rfl⟩ | exact .inr (by omega) | exact ⟨by assumption, by assumption⟩ | assumption | trivial)
          | exact .inr (by assumption)
          | (intro j hj; exact .inr (by simp only [St.set_n, St.new_n] at *; omega))
          | (intro e he; rcases List.mem_singleton.1 he with rfl; exact ⟨rfl, rfl⟩)
          | (rw [St.set_ne _ _ (by first | assumption | omega | (simp only [St.set_n, St.new_n] at *; omega))]; assumption)
          | (rw [St.set_ne _ _ (by first | assumption | omega | (simp only [St.set_n, St.new_n] at *; omega)), St.set_ne _ _ (by first | assumption | omega | (simp only [St.set_n, St.new_n] at *; omega))]; assumption)
          | (simp only [decide_eq_true_eq, decide_eq_false_iff_not, Bool.not_eq_true, beq_iff_eq, beq_eq_false_iff_ne, ne_eq, ge_iff_le, gt_iff_lt] at *; omega)) ?_; conv => whnf)
      | (rw [St.set_same]; conv => whnf)
      | (rw [St.new_same]; conv => whnf)
      | (rw [St.set_ne _ _ (by first | assumption | omega | (simp only [St.set_n, St.new_n] at *; omega))]; conv => whnf)
      | (rw [St.new_ne _ _ (by first | assumption | omega | (simp only [St.set_n, St.new_n] at *; omega))]; conv => whnf))
  refine ACallsW.of (trim_ok _ digs (by simp only [List.length_cons] at hs ⊢; omega) (by decide) (by decide) _ Non) (fun _ _ _ h => h.elim) ?_
  rintro _ _ _ ⟨rfl, rfl⟩
  have htr := trim_nil (c :: t)
  cases hall : (c :: t).all isDigit with
  | false =>
    rw [hall] at htr
    have g1 : (!(Lib.trimS (c :: t) digs == [])) = true := by rw [htr]; rfl
    have hno : numOf (c :: t) = .error 5 := by rw [numOf, hall]; rfl
    rw [hno]
    conv => whnf
    repeat' (first
        | (refine Bc_t ?_; conv => whnf)
        | (refine Bc_f ?_; conv => whnf)
        | (rw [g1]; conv => whnf)
        | (rw [g2]; conv => whnf)
        | (rw [g3]; conv => whnf)
        | (rw [g4]; conv => whnf)
        | (rw [g5]; conv => whnf)
        | (rw [g6]; conv => whnf)
        | (rw [hr]; conv => whnf)
        | (refine Bc_split (fun hb => ?_) (fun hb => ?_) <;> (rw [hb]; conv => whnf))
        | (refine And.intro (by first
            | omega
            | assumption
            | (simp only [St.set_n, St.new_n] at *; omega)
            | (simp; done)
            | (simp; omega)
            | (intro _; exact trivial)
            | (intro _; intro _ _; exact trivial)
            | (intro _; intro j hj; first | rfl | (have hj' : j < 1 := hj
                                                   obtain rfl : j = 0 := by omega
                                                   exact ⟨rfl, rfl⟩))
            | (intro j hj; obtain rfl : j = 0 := by omega
               first | exact ⟨rfl, rfl⟩ | exact .inl ⟨rfl, rfl⟩ | exact .inr (by omega) | exact ⟨by assumption, by assumption⟩ | assumption | trivial)
            | exact .inr (by assumption)
            | (intro j hj; exact .inr (by simp only [St.set_n, St.new_n] at *; omega))
            | (intro e he; rcases List.mem_singleton.1 he with rfl; exact ⟨rfl, rfl⟩)
            | (rw [St.set_ne _ _ (by first | assumption | omega | (simp only [St.set_n, St.new_n] at *; omega))]; assumption)
            | (rw [St.set_ne _ _ (by first | assumption | omega | (simp only [St.set_n, St.new_n] at *; omega)), St.set_ne _ _ (by first | assumption | omega | (simp only [St.set_n, St.new_n] at *; omega))]; assumption)
            | (simp only [decide_eq_true_eq, decide_eq_false_iff_not, Bool.not_eq_true, beq_iff_eq, beq_eq_false_iff_ne, ne_eq, ge_iff_le, gt_iff_lt] at *; omega)) ?_; conv => whnf)
        | (rw [St.set_same]; conv => whnf)
        | (rw [St.new_same]; conv => whnf)
        | (rw [St.set_ne _ _ (by first | assumption | omega | (simp only [St.set_n, St.new_n] at *; omega))]; conv => whnf)
        | (rw [St.new_ne _ _ (by first | assumption | omega | (simp only [St.set_n, St.new_n] at *; omega))]; conv => whnf))
    exact Fin.of ⟨rfl, rfl⟩
  | true =>
    rw [hall] at htr
    have g1 : (!(Lib.trimS (c :: t) digs == [])) = false := by rw [htr]; rfl
    conv => whnf
    repeat' (first
        | (refine Bc_t ?_; conv => whnf)
        | (refine Bc_f ?_; conv => whnf)
        | (rw [g1]; conv => whnf)
        | (rw [g2]; conv => whnf)
        | (rw [g3]; conv => whnf)
        | (rw [g4]; conv => whnf)
        | (rw [g5]; conv => whnf)
        | (rw [g6]; conv => whnf)
        | (rw [hr]; conv => whnf)
        | (refine Bc_split (fun hb => ?_) (fun hb => ?_) <;> (rw [hb]; conv => whnf))
        | (refine And.intro (by first
            | omega
            | assumption
            | (simp only [St.set_n, St.new_n] at *; omega)
            | (simp; done)
            | (simp; omega)
            | (intro _; exact trivial)
            | (intro _; intro _ _; exact trivial)
            | (intro _; intro j hj; first | rfl | (have hj' : j < 1 := hj
                                                   obtain rfl : j = 0 := by omega
                                                   exact ⟨rfl, rfl⟩))
            | (intro j hj; obtain rfl : j = 0 := by omega
               first | exact ⟨rfl, rfl⟩ | exact .inl ⟨rfl, rfl⟩ | exact .inr (by omega) | exact ⟨by assumption, by assumption⟩ | assumption | trivial)
            | exact .inr (by assumption)
            | (intro j hj; exact .inr (by simp only [St.set_n, St.new_n] at *; omega))
            | (intro e he; rcases List.mem_singleton.1 he with rfl; exact ⟨rfl, rfl⟩)
            | (rw [St.set_ne _ _ (by first | assumption | omega | (simp only [St.set_n, St.new_n] at *; omega))]; assumption)
            | (rw [St.set_ne _ _ (by first | assumption | omega | (simp only [St.set_n, St.new_n] at *; omega)), St.set_ne _ _ (by first | assumption | omega | (simp only [St.set_n, St.new_n] at *; omega))]; assumption)
            | (simp only [decide_eq_true_eq, decide_eq_false_iff_not, Bool.not_eq_true, beq_iff_eq, beq_eq_false_iff_ne, ne_eq, ge_iff_le, gt_iff_lt] at *; omega)) ?_; conv => whnf)
        | (rw [St.set_same]; conv => whnf)
        | (rw [St.new_same]; conv => whnf)
        | (rw [St.set_ne _ _ (by first | assumption | omega | (simp only [St.set_n, St.new_n] at *; omega))]; conv => whnf)
        | (rw [St.new_ne _ _ (by first | assumption | omega | (simp only [St.set_n, St.new_n] at *; omega))]; conv => whnf))
    · have hno : numOf (c :: t) = .error 5 := by
        rename_i h48
        have e : c.toNat = 48 := by have := beq_iff_eq.1 h48; have h' : (c :: t).getD (Int.toNat 0) 0 = c := rfl; rw [h'] at this; omega
        have e' : c = 48 := UInt8.toNat_inj.1 e
        have hl : 1 < (c :: t).length := by simp at hb ⊢; omega
        rw [numOf, hall, if_neg]
        simp [e']
        intro q
        rw [q] at hl
        simp at hl
      rw [hno]
      exact Fin.of ⟨rfl, rfl⟩
    all_goals
      have hno : numOf (c :: t) = if decVal 0 (c :: t) < 4611686018427387904 then .ok (decVal 0 (c :: t)) else .error 2 := by
        rw [numOf, hall, if_pos]
        first
          | (have hl : t = [] := by
               have hb' := of_decide_eq_false hb
               simp only [List.length_cons] at hb'
               exact List.eq_nil_of_length_eq_zero (by omega)
             subst hl
             simp)
          | (have hne : ((48 : UInt8) == c) = false := by
               rw [beq_eq_false_iff_ne]
               intro q
               subst q
               cases hb
             have hne' : c ≠ 48 := by intro q; subst q; cases hne
             simp [hne'])
      have hall' := parseM_all (c :: t) 0 hall
      have hpu : Lib.parseUintB 64 (c :: t) = Lib.parseUintM (2 ^ 64 - 1) 0 (c :: t) := by rw [Lib.parseUintB, if_neg (by simp)]
      refine ACallsW.of (parseUint_ok (c :: t) (by simp only [List.length_cons] at hs ⊢; omega) _ hB Non (by
        rw [hpu]
        cases hq : Lib.parseUintM (2 ^ 64 - 1) 0 (c :: t) with
        | range => exact .inl rfl
        | ok u => exact .inr ⟨u, rfl⟩
        | _ => rw [hq] at hall'; exact hall'.elim)) (fun _ _ _ h => h.elim) ?_
      rintro _ _ _ ⟨rfl, ⟨u, hu, rfl⟩ | ⟨hu, ty, rfl⟩⟩
      · rw [hpu] at hu
        rw [hu] at hall'
        have hall' : u = decVal 0 (c :: t) := hall'
        rw [hno, ← hall']
        by_cases hlt : u < 4611686018427387904
        · have g2 : decide ((u : Int) > 4611686018427387904) = false := by simp; omega
          have g3 : ((u : Int) == 4611686018427387904) = false := by rw [beq_eq_false_iff_ne]; omega
          have g4 : IntKind.i64.wrap (u : Int) = u := w64 (by omega) (by omega)
          rw [if_pos hlt]
          conv => whnf
          repeat' (first
              | (refine Bc_t ?_; conv => whnf)
              | (refine Bc_f ?_; conv => whnf)
              | (rw [g1]; conv => whnf)
              | (rw [g2]; conv => whnf)
              | (rw [g3]; conv => whnf)
              | (rw [g4]; conv => whnf)
              | (rw [g5]; conv => whnf)
              | (rw [g6]; conv => whnf)
              | (rw [hr]; conv => whnf)
              | (refine Bc_split (fun hb => ?_) (fun hb => ?_) <;> (rw [hb]; conv => whnf))
              | (refine And.intro (by first
                  | omega
                  | assumption
                  | (simp only [St.set_n, St.new_n] at *; omega)
                  | (simp; done)
                  | (simp; omega)
                  | (intro _; exact trivial)
                  | (intro _; intro _ _; exact trivial)
                  | (intro _; intro j hj; first | rfl | (have hj' : j < 1 := hj
                                                         obtain rfl : j = 0 := by omega
                                                         exact ⟨rfl, rfl⟩))
                  | (intro j hj; obtain rfl : j = 0 := by omega
                     first | exact ⟨rfl, rfl⟩ | exact .inl ⟨rfl, rfl⟩ | exact .inr (by omega) | exact ⟨by assumption, by assumption⟩ | assumption | trivial)
                  | exact .inr (by assumption)
                  | (intro j hj; exact .inr (by simp only [St.set_n, St.new_n] at *; omega))
                  | (intro e he; rcases List.mem_singleton.1 he with rfl; exact ⟨rfl, rfl⟩)
                  | (rw [St.set_ne _ _ (by first | assumption | omega | (simp only [St.set_n, St.new_n] at *; omega))]; assumption)
                  | (rw [St.set_ne _ _ (by first | assumption | omega | (simp only [St.set_n, St.new_n] at *; omega)), St.set_ne _ _ (by first | assumption | omega | (simp only [St.set_n, St.new_n] at *; omega))]; assumption)
                  | (simp only [decide_eq_true_eq, decide_eq_false_iff_not, Bool.not_eq_true, beq_iff_eq, beq_eq_false_iff_ne, ne_eq, ge_iff_le, gt_iff_lt] at *; omega)) ?_; conv => whnf)
              | (rw [St.set_same]; conv => whnf)
              | (rw [St.new_same]; conv => whnf)
              | (rw [St.set_ne _ _ (by first | assumption | omega | (simp only [St.set_n, St.new_n] at *; omega))]; conv => whnf)
              | (rw [St.new_ne _ _ (by first | assumption | omega | (simp only [St.set_n, St.new_n] at *; omega))]; conv => whnf))
          refine ACallsW.of (int_ok u hlt _ Non) (fun _ _ _ h => h.elim) ?_
          rintro _ _ _ ⟨rfl, rfl⟩
          conv => whnf
          repeat' (first
              | (refine Bc_t ?_; conv => whnf)
              | (refine Bc_f ?_; conv => whnf)
              | (rw [g1]; conv => whnf)
              | (rw [g2]; conv => whnf)
              | (rw [g3]; conv => whnf)
              | (rw [g4]; conv => whnf)
              | (rw [g5]; conv => whnf)
              | (rw [g6]; conv => whnf)
              | (rw [hr]; conv => whnf)
              | (refine Bc_split (fun hb => ?_) (fun hb => ?_) <;> (rw [hb]; conv => whnf))
              | (refine And.intro (by first
                  | omega
                  | assumption
                  | (simp only [St.set_n, St.new_n] at *; omega)
                  | (simp; done)
                  | (simp; omega)
                  | (intro _; exact trivial)
                  | (intro _; intro _ _; exact trivial)
                  | (intro _; intro j hj; first | rfl | (have hj' : j < 1 := hj
                                                         obtain rfl : j = 0 := by omega
                                                         exact ⟨rfl, rfl⟩))
                  | (intro j hj; obtain rfl : j = 0 := by omega
                     first | exact ⟨rfl, rfl⟩ | exact .inl ⟨rfl, rfl⟩ | exact .inr (by omega) | exact ⟨by assumption, by assumption⟩ | assumption | trivial)
                  | exact .inr (by assumption)
                  | (intro j hj; exact .inr (by simp only [St.set_n, St.new_n] at *; omega))
                  | (intro e he; rcases List.mem_singleton.1 he with rfl; exact ⟨rfl, rfl⟩)
                  | (rw [St.set_ne _ _ (by first | assumption | omega | (simp only [St.set_n, St.new_n] at *; omega))]; assumption)
                  | (rw [St.set_ne _ _ (by first | assumption | omega | (simp only [St.set_n, St.new_n] at *; omega)), St.set_ne _ _ (by first | assumption | omega | (simp only [St.set_n, St.new_n] at *; omega))]; assumption)
                  | (simp only [decide_eq_true_eq, decide_eq_false_iff_not, Bool.not_eq_true, beq_iff_eq, beq_eq_false_iff_ne, ne_eq, ge_iff_le, gt_iff_lt] at *; omega)) ?_; conv => whnf)
              | (rw [St.set_same]; conv => whnf)
              | (rw [St.new_same]; conv => whnf)
              | (rw [St.set_ne _ _ (by first | assumption | omega | (simp only [St.set_n, St.new_n] at *; omega))]; conv => whnf)
              | (rw [St.new_ne _ _ (by first | assumption | omega | (simp only [St.set_n, St.new_n] at *; omega))]; conv => whnf))
          exact Fin.of ⟨rfl, rfl⟩
        · rw [if_neg hlt]
          conv => whnf
          repeat' (first
              | (refine Bc_t ?_; conv => whnf)
              | (refine Bc_f ?_; conv => whnf)
              | (rw [g1]; conv => whnf)
              | (rw [g2]; conv => whnf)
              | (rw [g3]; conv => whnf)
              | (rw [g4]; conv => whnf)
              | (rw [g5]; conv => whnf)
              | (rw [g6]; conv => whnf)
              | (rw [hr]; conv => whnf)
              | (refine Bc_split (fun hb => ?_) (fun hb => ?_) <;> (rw [hb]; conv => whnf))
              | (refine And.intro (by first
                  | omega
                  | assumption
                  | (simp only [St.set_n, St.new_n] at *; omega)
                  | (simp; done)
                  | (simp; omega)
                  | (intro _; exact trivial)
                  | (intro _; intro _ _; exact trivial)
                  | (intro _; intro j hj; first | rfl | (have hj' : j < 1 := hj
                                                         obtain rfl : j = 0 := by omega
                                                         exact ⟨rfl, rfl⟩))
                  | (intro j hj; obtain rfl : j = 0 := by omega
                     first | exact ⟨rfl, rfl⟩ | exact .inl ⟨rfl, rfl⟩ | exact .inr (by omega) | exact ⟨by assumption, by assumption⟩ | assumption | trivial)
                  | exact .inr (by assumption)
                  | (intro j hj; exact .inr (by simp only [St.set_n, St.new_n] at *; omega))
                  | (intro e he; rcases List.mem_singleton.1 he with rfl; exact ⟨rfl, rfl⟩)
                  | (rw [St.set_ne _ _ (by first | assumption | omega | (simp only [St.set_n, St.new_n] at *; omega))]; assumption)
                  | (rw [St.set_ne _ _ (by first | assumption | omega | (simp only [St.set_n, St.new_n] at *; omega)), St.set_ne _ _ (by first | assumption | omega | (simp only [St.set_n, St.new_n] at *; omega))]; assumption)
                  | (simp only [decide_eq_true_eq, decide_eq_false_iff_not, Bool.not_eq_true, beq_iff_eq, beq_eq_false_iff_ne, ne_eq, ge_iff_le, gt_iff_lt] at *; omega)) ?_; conv => whnf)
              | (rw [St.set_same]; conv => whnf)
              | (rw [St.new_same]; conv => whnf)
              | (rw [St.set_ne _ _ (by first | assumption | omega | (simp only [St.set_n, St.new_n] at *; omega))]; conv => whnf)
              | (rw [St.new_ne _ _ (by first | assumption | omega | (simp only [St.set_n, St.new_n] at *; omega))]; conv => whnf))
          all_goals first
            | exact Fin.of ⟨rfl, rfl⟩
            | (exfalso
               rename_i q1
               have q1' := of_decide_eq_false q1
               have q2' := beq_eq_false_iff_ne.1 hb
               omega)
      · rw [hpu] at hu
        rw [hu] at hall'
        have hall' : 2 ^ 64 ≤ decVal 0 (c :: t) := hall'
        rw [hno, if_neg (by omega)]
        conv => whnf
        repeat' (first
            | (refine Bc_t ?_; conv => whnf)
            | (refine Bc_f ?_; conv => whnf)
            | (rw [g1]; conv => whnf)
            | (rw [g2]; conv => whnf)
            | (rw [g3]; conv => whnf)
            | (rw [g4]; conv => whnf)
            | (rw [g5]; conv => whnf)
            | (rw [g6]; conv => whnf)
            | (rw [hr]; conv => whnf)
            | (refine Bc_split (fun hb => ?_) (fun hb => ?_) <;> (rw [hb]; conv => whnf))
            | (refine And.intro (by first
                | omega
                | assumption
                | (simp only [St.set_n, St.new_n] at *; omega)
                | (simp; done)
                | (simp; omega)
                | (intro _; exact trivial)
                | (intro _; intro _ _; exact trivial)
                | (intro _; intro j hj; first | rfl | (have hj' : j < 1 := hj
                                                       obtain rfl : j = 0 := by omega
                                                       exact ⟨rfl, rfl⟩))
                | (intro j hj; obtain rfl : j = 0 := by omega
                   first | exact ⟨rfl, rfl⟩ | exact .inl ⟨rfl, rfl⟩ | exact .inr (by omega) | exact ⟨by assumption, by assumption⟩ | assumption | trivial)
                | exact .inr (by assumption)
                | (intro j hj; exact .inr (by simp only [St.set_n, St.new_n] at *; omega))
                | (intro e he; rcases List.mem_singleton.1 he with rfl; exact ⟨rfl, rfl⟩)
                | (rw [St.set_ne _ _ (by first | assumption | omega | (simp only [St.set_n, St.new_n] at *; omega))]; assumption)
                | (rw [St.set_ne _ _ (by first | assumption | omega | (simp only [St.set_n, St.new_n] at *; omega)), St.set_ne _ _ (by first | assumption | omega | (simp only [St.set_n, St.new_n] at *; omega))]; assumption)
                | (simp only [decide_eq_true_eq, decide_eq_false_iff_not, Bool.not_eq_true, beq_iff_eq, beq_eq_false_iff_ne, ne_eq, ge_iff_le, gt_iff_lt] at *; omega)) ?_; conv => whnf)
            | (rw [St.set_same]; conv => whnf)
            | (rw [St.new_same]; conv => whnf)
            | (rw [St.set_ne _ _ (by first | assumption | omega | (simp only [St.set_n, St.new_n] at *; omega))]; conv => whnf)
            | (rw [St.new_ne _ _ (by first | assumption | omega | (simp only [St.set_n, St.new_n] at *; omega))]; conv => whnf))
        exact Fin.of ⟨rfl, rfl⟩
end
end Go.Proofs.YtjeccchbeflddaaDoor.Ga
