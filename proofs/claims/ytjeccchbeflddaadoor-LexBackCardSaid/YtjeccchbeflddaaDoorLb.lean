/- The library's functions that the lexer calls: the kit's contracts, over abstract states. -/
import Derived.Test.YtjeccchbeflddaaDoorGa13
import Derived.Test.YtjeccchbeflddaaDoorShelf
import Derived.Shelf.Strings.SlTrimAscii
import Derived.Lib.SmallJoins
set_option linter.unusedVariables false
set_option linter.unusedSimpArgs false
namespace Go.Proofs.YtjeccchbeflddaaDoor.Ga
open Go.RowKit

/-- A world in which what stays is as it was. -/
def Agrees (base : Nat → Option Obj) (w : World) : Prop := ∀ b o, base b = some o → w.heap[b]? = some o

/-- What the program's own variables hold. -/
structure B0 (base : Nat → Option Obj) : Prop where
  maxLen : ∃ m, ∀ w, Agrees base w → w.cell? ⟨0, 0, none⟩ = some (.int .i64 m)
  pow10 : ∀ w, Agrees base w → Lib.TabIs Tryd.prog w "internal/strconv.uint64pow10" .u64 Lib.pow10Tab
  space : ∀ w, Agrees base w → Lib.TabIs Tryd.prog w "strings.asciiSpace" .u8 Lib.asciiSpaceTab
  range : ∃ tp p, ∀ w, Agrees base w → w.var? Tryd.prog "strconv.ErrRange" = some #[.iface tp p]

theorem Rel.agrees {x : X} (h : Rel x) : Agrees x.σ.base x.w := fun b o hb => (h.pins b o hb).2

theorem below_ok {m : Nat → Nat → Prop} {x : X} (hx : Rel x) {w' : World} (h : Below x.w.heap.size x.w w') : Evol m x ⟨x.σ, x.g, w'⟩ ∧ Rel ⟨x.σ, x.g, w'⟩ := by
  have hb : ∀ b, b < x.w.heap.size → w'.heap[b]? = x.w.heap[b]? := h.block
  have he : ∀ m, Evol m x ⟨x.σ, x.g, w'⟩ := fun m =>
    { n := Nat.le_refl _, size := h.size, os := h.os, base := rfl, tape := h.tape, output := h.output
      objs := fun id hid => by
        cases ho : x.σ.obj id with
        | cells cs => exact ⟨rfl, cs, ho, rfl, fun off _ => ⟨rfl, World.cell?_of_block (hb _ (hx.objBlk hid (by rw [ho]; simp)))⟩⟩
        | map es => exact ⟨rfl, es, ho, fun _ => ⟨rfl, hb _ (hx.objBlk hid (by rw [ho]; simp))⟩⟩
        | row hw => exact ⟨hw, ho, Nat.le_refl _, fun _ => rfl⟩
      blks := fun b hlt => by
        cases hk : x.g.kind b with
        | free => exact ⟨hk, hb b hlt⟩
        | obj id => exact hk
        | row n own =>
          obtain ⟨cs, e, fr, h1, _⟩ := hx.rows b n own hk
          exact ⟨n, Nat.le_refl _, hk, ⟨cs, e, fr, cs, h1, (hb b hlt).trans h1, rfl, fun _ _ => rfl⟩, fun _ _ _ _ _ _ => rfl⟩ }
  refine ⟨he m, hx.step (he fun _ _ => False) (fun id hid => .inl ⟨hid, rfl, rfl, fun hr => hb _ (hx.objBlk hid hr)⟩) (fun b hle => hx.lt b (Nat.le_trans h.size hle)) (fun b k o hk => ?_) hx.hits hx.toks⟩
  obtain ⟨cs, e, fr, h1, h2⟩ := hx.rows b k o hk
  exact ⟨cs, e, fr, (hb b (hx.blk_lt (by rw [hk]; simp))).trans h1, h2⟩

/-- A kit's contract whose answer is plain. -/
theorem ACalls.ofKit {P : Program} {f : FuncId} {args : List A} {σ : St} {m : Nat → Nat → Prop} {R : AEnd → St → Prop}
    (h : ∀ (x : X) (vs : List Value), Rel x → x.σ = σ → vs.length = args.length → (∀ (j : Nat) (a : A), args[j]? = some a → VR x a (vs.getD j undef)) →
      Calls P f vs.toArray x.w fun e w' => Below x.w.heap.size x.w w' ∧ ∃ v a, e = .returned v ∧ (∀ y, VR y a v) ∧ R (.ret a) σ) : ACalls P f args σ m R := by
  intro x vs hx hσ hl hv
  refine (h x vs hx hσ hl hv).mono ?_
  rintro e w' ⟨hb, v, a, rfl, hva, hR⟩
  obtain ⟨h1, h2⟩ := below_ok (m := m) hx hb
  exact ⟨⟨x.σ, x.g, w'⟩, rfl, h1, h2, .ret a, ⟨v, rfl, hva _⟩, by rw [hσ]; exact hR⟩

theorem vs_one {x : X} {a : A} {vs : List Value} (hl : vs.length = 1) (hv : ∀ (j : Nat) (c : A), [a][j]? = some c → VR x c (vs.getD j undef)) : ∃ u, vs = [u] ∧ VR x a u := by
  match vs, hl with
  | [u], _ => exact ⟨u, rfl, hv 0 a rfl⟩
theorem vs_two {x : X} {a b : A} {vs : List Value} (hl : vs.length = 2) (hv : ∀ (j : Nat) (c : A), [a, b][j]? = some c → VR x c (vs.getD j undef)) : ∃ u v, vs = [u, v] ∧ VR x a u ∧ VR x b v := by
  match vs, hl with
  | [u, v], _ => exact ⟨u, v, rfl, hv 0 a rfl, hv 1 b rfl⟩
theorem vs_three {x : X} {a b c : A} {vs : List Value} (hl : vs.length = 3) (hv : ∀ (j : Nat) (d : A), [a, b, c][j]? = some d → VR x d (vs.getD j undef)) : ∃ u v w, vs = [u, v, w] ∧ VR x a u ∧ VR x b v ∧ VR x c w := by
  match vs, hl with
  | [u, v, w], _ => exact ⟨u, v, w, rfl, hv 0 a rfl, hv 1 b rfl, hv 2 c rfl⟩

theorem mk_size (s : List UInt8) : (⟨s.toArray⟩ : ByteArray).size = s.length := by show s.toArray.size = _; simp

theorem indexByte_ok (s : List UInt8) (c : UInt8) (σ : St) (m) : ACalls Tryd.prog 33 [.str s, .int .u8 c.toNat] σ m (fun e σ' => σ' = σ ∧ e = .ret (.int .i64 (Lib.indexByte s c))) := by
  refine ACalls.ofKit fun x vs hx hσ hl hv => ?_
  obtain ⟨u, v, rfl, hu, hw⟩ := vs_two hl hv
  cases hu
  cases hw
  refine (Tryd.strings_IndexByte _ _ _).mono ?_
  rintro e w' ⟨rfl, rfl⟩
  exact ⟨Below.refl _ _, _, _, rfl, fun y => .int _ _, rfl, by simp⟩

theorem contains_ok (s t : List UInt8) (hs : s.length < 4294967281) (σ : St) (hB : B0 σ.base) (m) : ACalls Tryd.prog 16 [.str s, .str t] σ m (fun e σ' => σ' = σ ∧ e = .ret (.bool (Lib.contains s t))) := by
  refine ACalls.ofKit fun x vs hx hσ hl hv => ?_
  obtain ⟨u, v, rfl, hu, hw⟩ := vs_two hl hv
  cases hu
  cases hw
  obtain ⟨k, hk⟩ := hB.maxLen
  refine (Tryd.strings_Contains _ _ k _ (by rw [mk_size]; exact hs) (hk _ (by rw [← hσ]; exact hx.agrees))).mono ?_
  rintro e w' ⟨rfl, rfl⟩
  exact ⟨Below.refl _ _, _, _, rfl, fun y => .bool _, rfl, rfl⟩

theorem tup2 {y : X} {a b : A} {u v : Value} (h1 : VR y a u) (h2 : VR y b v) : VR y (.tup [a, b]) (.tuple #[u, v]) := .tup _ _ rfl (fun j c hj => by
  match j with
  | 0 => simp at hj; subst hj; simpa using h1
  | 1 => simp at hj; subst hj; simpa using h2
  | j + 2 => simp at hj)

theorem cutPrefix_ok (s t : List UInt8) (σ : St) (m) : ACalls Tryd.prog 60 [.str s, .str t] σ m (fun e σ' => σ' = σ ∧ e = .ret (.tup [.str (Lib.trimPrefix s t), .bool (Lib.hasPrefix s t)])) := by
  refine ACalls.ofKit fun x vs hx hσ hl hv => ?_
  obtain ⟨u, v, rfl, hu, hw⟩ := vs_two hl hv
  cases hu
  cases hw
  refine (Tryd.strings_CutPrefix _ _ _).mono ?_
  rintro e w' ⟨rfl, rfl⟩
  exact ⟨Below.refl _ _, _, _, rfl, fun y => tup2 (.str _) (.bool _), rfl, rfl⟩

theorem trim_ok (s t : List UInt8) (hs : s.length ≤ 9223372036854775807) (ht : t.length < 4294967281) (hascii : t.all (fun b => decide (b.toNat < 128)) = true) (σ : St) (m) :
    ACalls Tryd.prog 61 [.str s, .str t] σ m (fun e σ' => σ' = σ ∧ e = .ret (.str (Lib.trimS s t))) := by
  refine ACalls.ofKit fun x vs hx hσ hl hv => ?_
  obtain ⟨u, v, rfl, hu, hw⟩ := vs_two hl hv
  cases hu
  cases hw
  refine (Any.strings_Trim_laid Tryd.lays160 (by kernel_rfl) _ _ _ (by rw [mk_size]; exact hs) (by rw [mk_size]; exact ht) (ascii_of_all hascii)).mono ?_
  rintro e w' ⟨rfl, hb⟩
  exact ⟨hb, _, _, rfl, fun y => .str _, rfl, rfl⟩

theorem below_grow (w : World) (k : Nat) (os : Array Obj) : Below w.heap.size w (Go.Sort.grow (w.drewN k) os) :=
  ⟨rfl, rfl, rfl, by show w.heap.size ≤ (w.heap ++ os).size; simp, fun b hb => by show (w.heap ++ os)[b]? = _; rw [Array.getElem?_append_left hb]⟩

theorem formatInt_ok (n : Int) (h0 : -9223372036854775808 ≤ n) (h1 : n ≤ 9223372036854775807) (σ : St) (hB : B0 σ.base) (m) :
    ACalls Tryd.prog 28 [.int .i64 n, .int .i64 10] σ m (fun e σ' => σ' = σ ∧ e = .ret (.str (Lib.itoa n))) := by
  refine ACalls.ofKit fun x vs hx hσ hl hv => ?_
  obtain ⟨u, v, rfl, hu, hw⟩ := vs_two hl hv
  cases hu
  cases hw
  refine (Tryd.strconv_FormatInt_10 n h0 h1 _ (hB.pow10 _ (by rw [← hσ]; exact hx.agrees))).mono ?_
  rintro e w' ⟨rfl, k, os, rfl⟩
  exact ⟨below_grow _ _ _, _, _, rfl, fun y => .str _, rfl, rfl⟩

theorem below_row {m : Nat → Nat → Prop} {x : X} (hx : Rel x) {w' : World} (h : Below x.w.heap.size x.w w') {N : Nat} (hN : x.w.heap.size ≤ N) {cs : Array Value} {e : TypeId} {fr : Nat × Nat} (hc : w'.heap[N]? = some (.cells cs e fr)) :
    Evol m x ⟨x.σ, ⟨x.g.blk, upd x.g.kind N (.row 0 none)⟩, w'⟩ ∧ Rel ⟨x.σ, ⟨x.g.blk, upd x.g.kind N (.row 0 none)⟩, w'⟩ := by
  obtain ⟨h1, h2⟩ := below_ok (m := fun _ _ => False) hx h
  have hk : ∀ b, b < x.w.heap.size → upd x.g.kind N (.row 0 none) b = x.g.kind b := fun b hb => upd_ne _ _ (by omega)
  have he : ∀ m, Evol m x ⟨x.σ, ⟨x.g.blk, upd x.g.kind N (.row 0 none)⟩, w'⟩ := fun m =>
    { n := Nat.le_refl _, size := h.size, os := h.os, base := rfl, tape := h.tape, output := h.output
      objs := fun id hid => by
        have := (h1.mono (m' := m) (fun _ _ _ q => q.elim)).objs id hid
        cases ho : x.σ.obj id with
        | cells cs => rw [ho] at this; exact this
        | map es => rw [ho] at this; exact this
        | row hw => rw [ho] at this; exact this
      blks := fun b hlt => by
        have := h1.blks b hlt
        have e := hk b hlt
        cases hq : x.g.kind b with
        | free => rw [hq] at this; exact ⟨e.trans this.1, this.2⟩
        | obj id => rw [hq] at this; exact e.trans this
        | row k o => rw [hq] at this; obtain ⟨k', a1, a2, a3, a4⟩ := this; exact ⟨k', a1, e.trans a2, a3, a4⟩ }
  refine ⟨he m, hx.step (he fun _ _ => False) (fun id hid => .inl ⟨hid, rfl, rfl, fun hr => h.block _ (hx.objBlk hid hr)⟩) (fun b hle => ?_) (fun b k o hb => ?_) (fun b id hb => ?_) (fun b k t hb => ?_)⟩
  · have hb : w'.heap.size ≤ b := hle
    have : N < w'.heap.size := by
      rcases Nat.lt_or_ge N w'.heap.size with q | q
      · exact q
      · rw [Array.getElem?_eq_none q] at hc; cases hc
    show upd x.g.kind N (.row 0 none) b = _
    rw [upd_ne _ _ (by omega)]
    exact h2.lt b hb
  · by_cases hbN : b = N
    · subst hbN
      have : upd x.g.kind b (.row 0 none) b = .row k o := hb
      rw [upd_same] at this
      injection this with e1 e2
      exact ⟨cs, e, fr, hc, by omega⟩
    · have : upd x.g.kind N (.row 0 none) b = .row k o := hb
      rw [upd_ne _ _ hbN] at this
      exact h2.rows b k o this
  · by_cases hbN : b = N
    · subst hbN
      have : upd x.g.kind b (.row 0 none) b = .obj id := hb
      rw [upd_same] at this
      cases this
    · have : upd x.g.kind N (.row 0 none) b = .obj id := hb
      rw [upd_ne _ _ hbN] at this
      exact hx.hits b id this
  · by_cases hbN : b = N
    · subst hbN
      have : upd x.g.kind b (.row 0 none) b = .row k (some t) := hb
      rw [upd_same] at this
      injection this with e1 e2
      cases e2
    · have : upd x.g.kind N (.row 0 none) b = .row k (some t) := hb
      rw [upd_ne _ _ hbN] at this
      exact hx.toks b k t this

theorem parseUint_ok (s : List UInt8) (hs : s.length ≤ 281474976710656) (σ : St) (hB : B0 σ.base) (m) (hyes : Lib.parseUintB 64 s = .range ∨ ∃ u, Lib.parseUintB 64 s = .ok u) :
    ACalls Tryd.prog 62 [.str s, .int .i64 10, .int .i64 64] σ m (fun e σ' => σ' = σ ∧ ((∃ u : Nat, Lib.parseUintB 64 s = .ok u ∧ e = .ret (.tup [.int .u64 u, .nili])) ∨
      (Lib.parseUintB 64 s = .range ∧ ∃ t, e = .ret (.tup [.int .u64 18446744073709551615, .iface t (.rp [])])))) := by
  intro x vs hx hσ hl hv
  obtain ⟨u, v, v', rfl, hu, hw, hw'⟩ := vs_three hl hv
  cases hu
  cases hw
  cases hw'
  rcases hyes with hp | ⟨u, hp⟩
  rotate_left 1
  · rw [hp]
    refine (Tryd.strconv_ParseUint_10_at64_ok ⟨s.toArray⟩ (by rw [mk_size]; omega) u hp x.w).mono ?_
    rintro e w' ⟨rfl, hw⟩
    have hb : Below x.w.heap.size x.w w' := by
      rcases hw with rfl | rfl
      · exact Below.refl _ _
      · exact Go.Joins.below_bytesWorld _ _ _ _ (Nat.le_refl _)
    obtain ⟨h1, h2⟩ := below_ok (m := m) hx hb
    exact ⟨⟨x.σ, x.g, w'⟩, rfl, h1, h2, .ret (.tup [.int .u64 u, .nili]), ⟨_, rfl, tup2 (.int _ _) .nili⟩, hσ, .inl ⟨u, rfl, rfl⟩⟩
  · rw [hp]
    obtain ⟨tp, p, hr⟩ := hB.range
    refine (Tryd.strconv_ParseUint_10_at64_range_var ⟨s.toArray⟩ (by rw [mk_size]; exact hs) hp tp p x.w (hr _ (by rw [← hσ]; exact hx.agrees))).mono ?_
    rintro e w' ⟨N, rfl, hN, hc, hb⟩
    obtain ⟨h1, h2⟩ := below_row (m := m) hx hb hN hc
    refine ⟨_, rfl, h1, h2, .ret (.tup [.int .u64 18446744073709551615, .iface _ (.rp [])]), ⟨_, rfl, tup2 (.int _ _) (.iface _ _ _ (.rp [] N 0 0 none (fun _ => undef) (upd_same _ _ _) (Nat.le_refl _) (fun j hj => by simp at hj) (fun j c hj => by simp at hj)))⟩, hσ, .inr ⟨rfl, _, rfl⟩⟩

theorem flat_strs (l : List (List UInt8)) : flat (l.map A.str) = l.map A.str := by
  induction l with
  | nil => rfl
  | cons b r ih => simp only [List.map_cons, flat, List.flatMap_cons] at ih ⊢; rw [ih]; rfl

theorem fields_ok (s : List UInt8) (hs : s.length < 4294967281) (hascii : s.all (fun b => decide (b.toNat < 128)) = true) (σ : St) (hB : B0 σ.base) (m) :
    ACalls Tryd.prog 50 [.str s] σ m (fun e σ' => σ' = σ ∧ e = .ret (.sl .full 1 ((Lib.fields s).map A.str))) := by
  intro x vs hx hσ hl hv
  obtain ⟨u, rfl, hu⟩ := vs_one hl hv
  cases hu
  refine (Tryd.strings_Fields_laid ⟨s.toArray⟩ x.w (by rw [mk_size]; exact hs) (ascii_of_all hascii) (hB.space _ (by rw [← hσ]; exact hx.agrees))).mono ?_
  rintro e w' ⟨rfl, rfl⟩
  have hlen : (flat ((Lib.fields s).map A.str)).length ≤ ((Lib.fields s).map fun l => Value.string ⟨l.toArray⟩).toArray.size := by rw [flat_strs]; simp
  have hsl := X.row_sl hx (((Lib.fields s).map fun l => Value.string ⟨l.toArray⟩).toArray) 9 1 ((Lib.fields s).map A.str) hlen (fun e he => by
    obtain ⟨l, _, rfl⟩ := List.mem_map.1 he; rfl) (fun j c hj => by
    rw [flat_strs, List.getElem?_map] at hj
    cases hq : (Lib.fields s)[j]? with
    | none => rw [hq] at hj; cases hj
    | some l =>
      rw [hq] at hj
      injection hj with hj
      subst hj
      have : ((Lib.fields s).map fun l => Value.string ⟨l.toArray⟩).toArray.getD j undef = .string ⟨l.toArray⟩ := by
        rw [Array.getD_eq_getD_getElem?]; simp [hq]
      rw [this]
      exact .str l)
  obtain ⟨h1, h2⟩ := X.row_ok (m := m) hx (((Lib.fields s).map fun l => Value.string ⟨l.toArray⟩).toArray) 9 (flat ((Lib.fields s).map A.str)).length hlen
  refine ⟨_, rfl, h1, h2, .ret _, ⟨_, rfl, ?_⟩, hσ, rfl⟩
  rw [List.length_map] at hsl
  exact hsl

end Go.Proofs.YtjeccchbeflddaaDoor.Ga
