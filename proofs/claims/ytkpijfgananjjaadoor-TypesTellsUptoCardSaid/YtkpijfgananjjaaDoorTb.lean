/- The library's functions that the types' layer calls: the kit's contracts, over abstract states. -/
import Derived.Test.YtkpijfgananjjaaDoorGc
import Derived.Test.YtkpijfgananjjaaDoorShelf
import Derived.Lib.SmallJoins
set_option linter.unusedVariables false
set_option linter.unusedSimpArgs false
namespace Go.Proofs.YtkpijfgananjjaaDoor.Ga
open Go.RowKit

/-- A world in which what stays is as it was. -/
def Agrees (base : Nat → Option Obj) (w : World) : Prop := ∀ b o, base b = some o → w.heap[b]? = some o

/-- What the program's own variables hold. -/
structure B1 (base : Nat → Option Obj) : Prop where
  pow10 : ∀ w, Agrees base w → Lib.TabIs Tryd.prog w "internal/strconv.uint64pow10" .u64 Lib.pow10Tab

theorem Rel.agrees {x : X} (h : Rel x) : Agrees x.σ.base x.w := fun b o hb => (h.pins b o hb).2

theorem below_ok {m : Nat → Nat → Prop} {x : X} (hx : Rel x) {w' : World} (h : Below x.w.heap.size x.w w') : Evol m x ⟨x.σ, x.g, w'⟩ ∧ Rel ⟨x.σ, x.g, w'⟩ := by
  have hb : ∀ b, b < x.w.heap.size → w'.heap[b]? = x.w.heap[b]? := h.block
  have he : ∀ m, Evol m x ⟨x.σ, x.g, w'⟩ := fun m =>
    { n := Nat.le_refl _, size := h.size, os := h.os, base := rfl, tape := h.tape, output := h.output
      objs := fun id hid => by
        cases ho : x.σ.obj id with
        | cells cs => exact ⟨rfl, cs, ho, rfl, fun off _ => ⟨rfl, World.cell?_of_block (hb _ (hx.objBlk hid (by rw [ho]; simp)))⟩⟩
        | map es => exact ⟨rfl, es, ho, fun _ => ⟨rfl, hb _ (hx.objBlk hid (by rw [ho]; simp))⟩⟩
        | row hw => exact ⟨hw, ho, Nat.le_refl _, fun _ => rfl⟩
      blks := fun b hlt => by
        cases hk : x.g.kind b with
        | free => exact ⟨hk, hb b hlt⟩
        | obj id => exact hk
        | row n own =>
          obtain ⟨cs, e, fr, h1, _⟩ := hx.rows b n own hk
          exact ⟨n, Nat.le_refl _, hk, ⟨cs, e, fr, cs, h1, (hb b hlt).trans h1, rfl, fun _ _ => rfl⟩, fun _ _ _ _ _ _ => rfl⟩ }
  refine ⟨he m, hx.step (he fun _ _ => False) (fun id hid => .inl ⟨hid, rfl, rfl, fun hr => hb _ (hx.objBlk hid hr)⟩) (fun b hle => hx.lt b (Nat.le_trans h.size hle)) (fun b k o hk => ?_) hx.hits hx.toks⟩
  obtain ⟨cs, e, fr, h1, h2⟩ := hx.rows b k o hk
  exact ⟨cs, e, fr, (hb b (hx.blk_lt (by rw [hk]; simp))).trans h1, h2⟩

/-- A kit's contract whose answer is plain. -/
theorem ACalls.ofKit {P : Program} {f : FuncId} {args : List A} {σ : St} {m : Nat → Nat → Prop} {R : AEnd → St → Prop}
    (h : ∀ (x : X) (vs : List Value), Rel x → x.σ = σ → vs.length = args.length → (∀ (j : Nat) (a : A), args[j]? = some a → VR x a (vs.getD j undef)) →
      Calls P f vs.toArray x.w fun e w' => Below x.w.heap.size x.w w' ∧ ∃ v a, e = .returned v ∧ (∀ y, VR y a v) ∧ R (.ret a) σ) : ACalls P f args σ m R := by
  intro x vs hx hσ hl hv
  refine (h x vs hx hσ hl hv).mono ?_
  rintro e w' ⟨hb, v, a, rfl, hva, hR⟩
  obtain ⟨h1, h2⟩ := below_ok (m := m) hx hb
  exact ⟨⟨x.σ, x.g, w'⟩, rfl, h1, h2, .ret a, ⟨v, rfl, hva _⟩, by rw [hσ]; exact hR⟩

theorem vs_one {x : X} {a : A} {vs : List Value} (hl : vs.length = 1) (hv : ∀ (j : Nat) (c : A), [a][j]? = some c → VR x c (vs.getD j undef)) : ∃ u, vs = [u] ∧ VR x a u := by
  match vs, hl with
  | [u], _ => exact ⟨u, rfl, hv 0 a rfl⟩
theorem vs_two {x : X} {a b : A} {vs : List Value} (hl : vs.length = 2) (hv : ∀ (j : Nat) (c : A), [a, b][j]? = some c → VR x c (vs.getD j undef)) : ∃ u v, vs = [u, v] ∧ VR x a u ∧ VR x b v := by
  match vs, hl with
  | [u, v], _ => exact ⟨u, v, rfl, hv 0 a rfl, hv 1 b rfl⟩
theorem vs_three {x : X} {a b c : A} {vs : List Value} (hl : vs.length = 3) (hv : ∀ (j : Nat) (d : A), [a, b, c][j]? = some d → VR x d (vs.getD j undef)) : ∃ u v w, vs = [u, v, w] ∧ VR x a u ∧ VR x b v ∧ VR x c w := by
  match vs, hl with
  | [u, v, w], _ => exact ⟨u, v, w, rfl, hv 0 a rfl, hv 1 b rfl, hv 2 c rfl⟩

theorem mk_size (s : List UInt8) : (⟨s.toArray⟩ : ByteArray).size = s.length := by show s.toArray.size = _; simp

theorem tup2 {y : X} {a b : A} {u v : Value} (h1 : VR y a u) (h2 : VR y b v) : VR y (.tup [a, b]) (.tuple #[u, v]) := .tup _ _ rfl (fun j c hj => by
  match j with
  | 0 => simp at hj; subst hj; simpa using h1
  | 1 => simp at hj; subst hj; simpa using h2
  | j + 2 => simp at hj)

theorem below_grow (w : World) (k : Nat) (os : Array Obj) : Below w.heap.size w (Go.Sort.grow (w.drewN k) os) :=
  ⟨rfl, rfl, rfl, by show w.heap.size ≤ (w.heap ++ os).size; simp, fun b hb => by show (w.heap ++ os)[b]? = _; rw [Array.getElem?_append_left hb]⟩

theorem flat_strs (l : List (List UInt8)) : flat (l.map A.str) = l.map A.str := by
  induction l with
  | nil => rfl
  | cons b r ih => simp only [List.map_cons, flat, List.flatMap_cons] at ih ⊢; rw [ih]; rfl


theorem itoa_ok (n : Int) (h0 : -9223372036854775808 ≤ n) (h1 : n ≤ 9223372036854775807) (σ : St) (hB : B1 σ.base) (m) :
    ACalls Tryd.prog 22 [.int .i64 n] σ m (fun e σ' => σ' = σ ∧ e = .ret (.str (Lib.itoa n))) := by
  refine ACalls.ofKit fun x vs hx hσ hl hv => ?_
  obtain ⟨u, rfl, hu⟩ := vs_one hl hv
  cases hu
  refine (Tryd.strconv_Itoa n h0 h1 _ (hB.pow10 _ (by rw [← hσ]; exact hx.agrees))).mono ?_
  rintro e w' ⟨rfl, k, os, rfl⟩
  exact ⟨below_grow _ _ _, _, _, rfl, fun y => .str _, rfl, rfl⟩

theorem mk_list (l : List UInt8) : (⟨l.toArray⟩ : ByteArray).data.toList = l := by simp
theorem join_ok (o : Own) (l : List (List UInt8)) (sep : List UInt8) (hN : l.length ≤ 140737488355328) (hlen : (Lib.join l sep).length ≤ 140737488355328) (hne : l ≠ []) (σ : St) (m) :
    ACalls Tryd.prog 23 [.sl o 1 (l.map A.str), .str sep] σ m (fun e σ' => σ' = σ ∧ e = .ret (.str (Lib.join l sep))) := by
  refine ACalls.ofKit fun x vs hx hσ hl hv => ?_
  obtain ⟨u, v, rfl, hu, hw⟩ := vs_two hl hv
  cases hw
  generalize hxs : l.map A.str = xs at hu
  cases hu with
  | slnil => exact absurd (List.map_eq_nil_iff.1 hxs) hne
  | slz => exact absurd (List.map_eq_nil_iff.1 hxs) hne
  | sl _ _ _ cs b off cap k own vs hcs hsz hcap hk hc hvv ho =>
    have hf : cs = l.map A.str := by rw [hcs, ← hxs, flat_strs]
    have hne' : cs ≠ [] := by rw [hf]; simpa using hne
    have hb := hx.blk_lt (b := b) (by rw [(hk hne').1]; simp)
    have hcell : ∀ (j : Nat) s, (l.map fun s => (⟨s.toArray⟩ : ByteArray))[j]? = some s → x.w.cell? ⟨b, off + j, none⟩ = some (.string s) := fun j s hj => by
      rw [List.getElem?_map] at hj
      cases hq : l[j]? with
      | none => rw [hq] at hj; cases hj
      | some t =>
        rw [hq] at hj
        injection hj with hj
        subst hj
        have hcj : cs[j]? = some (.str t) := by rw [hf, List.getElem?_map, hq]; rfl
        have h1 := hvv j _ hcj
        have h2 := hc j (List.getElem?_eq_some_iff.1 hcj).1
        generalize vs j = vj at h1 h2
        cases h1
        exact h2
    obtain ⟨L, hL⟩ : ∃ L : List ByteArray, L = l.map fun s => (⟨s.toArray⟩ : ByteArray) := ⟨_, rfl⟩
    rw [← hL] at hcell
    have he : L.map (·.data.toList) = l := by
      rw [hL, List.map_map]; exact (List.map_congr_left (fun s _ => mk_list s)).trans (List.map_id l)
    have hlen' : xs.length = L.length := by rw [← hxs, hL]; simp
    have hlen2 : (Lib.join (L.map (·.data.toList)) (⟨sep.toArray⟩ : ByteArray).data.toList).length ≤ 140737488355328 := by rw [he, mk_list]; exact hlen
    have hN' : L.length ≤ 140737488355328 := by rw [← hlen', ← hxs, List.length_map]; exact hN
    have hcap' : L.length ≤ cap := by rw [← hlen']; exact hcap
    rw [hlen']
    have key := Tryd.strings_Join b off cap L ⟨sep.toArray⟩ x.w hcell hb hN' hcap' hlen2
    rw [he, mk_list] at key
    refine key.mono ?_
    rintro e w' ⟨rfl, hb⟩
    exact ⟨hb, _, _, rfl, fun y => .str _, rfl, rfl⟩
end Go.Proofs.YtkpijfgananjjaaDoor.Ga
