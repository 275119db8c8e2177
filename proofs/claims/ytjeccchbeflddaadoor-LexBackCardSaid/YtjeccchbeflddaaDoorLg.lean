/- From a row's world to the abstract states, and back. -/
import Derived.Test.YtjeccchbeflddaaDoorCards
import Derived.Test.YtjeccchbeflddaaDoorTie
import Derived.WalkKit
import Derived.ProofKit
import Derived.OpenShut
import Derived.Deep.DeepHandedRow
import Derived.Deep.DeepWitnessRowRef
import Derived.Lib.LaidTab
import Derived.Lib.LaidU8
import Derived.Lib.SpaceR
import Derived.Shelf.Vars
import Derived.Test.YtjeccchbeflddaaDoorLb
set_option linter.unusedVariables false
set_option linter.unusedSimpArgs false
namespace Go.Proofs.YtjeccchbeflddaaDoor.Ga
open Go.ChangeShapes Go.WideShapes Go.ChangeAt Go.RowKit

theorem own : ownKnob Tryd.prog.godebug = none := by kernel_rfl

/-- What the program's variables hold, out of a row's condition. -/
theorem tab_of {P : Program} {w : World} {name : String} {k : IntKind} {zs : List Int} {g : Nat} {t e : TypeId} {n : Nat}
    (hg : P.globalNamed name = some g) (hty : (P.globals[g]?).map (·.type) = some t) (ht : P.underlying t = some (.array n e)) (he : P.underlying e = some (.int k)) (hce : P.cellsOf e = 1) (hct : P.cellsOf t = n)
    (h : Lib.VarReads P w name (Lib.tabData k zs)) : Lib.TabIs P w name k zs := by
  obtain ⟨g', t', cs, fuel, p, hg', ht', hvar, hd⟩ := h
  obtain rfl := Option.some.inj (hg.symm.trans hg')
  obtain rfl := Option.some.inj (hty.symm.trans ht')
  unfold Lib.TabIs
  rw [hvar, ← Lib.cells_of_tab ht he hce hct hd]

theorem iface_of_trod {H : Type} {enc : TypeId × Value → H} {P : Program} {w : World} {base : Nat} {sp : Nat → Bool} {held : Bool} {fuel : Nat} {t : TypeId} {ms} {cs : List Value} {name : String} {d : DataW H} {p : List MemPlace}
    (ht : P.underlying t = some (.interface ms)) (h : DataW.trod enc P w base sp held fuel t cs = some (.iface name d, p)) : ∃ u v, cs = [.iface u v] := by
  cases fuel with
  | zero => simp [DataW.trod] at h
  | succ fuel =>
    match cs, h with
    | [], h => simp [DataW.trod, ht] at h
    | _ :: _ :: _, h => simp [DataW.trod, ht] at h
    | [c], h => cases c <;> simp [DataW.trod, ht] at h <;> exact ⟨_, _, rfl⟩

def base (W : World) : Nat → Option Obj := fun b => W.heap[b]?
theorem agrees_iff {W w : World} (h : Agrees (base W) w) {b : Nat} {o : Obj} (hb : W.heap[b]? = some o) : w.heap[b]? = some o := h b o hb
theorem var_agrees {P : Program} {W w : World} (h : Agrees (base W) w) {name : String} {cs : Array Value} (hv : W.var? P name = some cs) : w.var? P name = some cs := by
  unfold World.var? at hv ⊢
  cases hg : P.globalNamed name with
  | none => rw [hg] at hv; cases hv
  | some g =>
    rw [hg] at hv
    simp only [Option.bind_some] at hv ⊢
    split at hv
    · rename_i cs' t fr hh
      rw [agrees_iff h hh]
      exact hv
    · cases hv

theorem b0_of {W : World} (hsh : W.ShapedOpen Tryd.prog) (h1 : Lib.VarReads Tryd.prog W "internal/strconv.uint64pow10" (Lib.tabData .u64 Lib.pow10Tab))
    (h2 : Lib.VarReads Tryd.prog W "strings.asciiSpace" (Lib.tabData .u8 Lib.asciiSpaceTab)) {nm : String} {d : DataW Unit} (h3 : Lib.VarReads Tryd.prog W "strconv.ErrRange" (.iface nm d)) : B0 (base W) where
  maxLen := by
    obtain ⟨m, hm⟩ := Go.Proofs.cell_of_shapedOpen_int (g := 0) (t := 3) (zero := #[.int .i64 0]) (k := .i64) hsh (by decide +kernel) (by kernel_rfl) rfl (by kernel_rfl) (by kernel_rfl) (by kernel_rfl)
    refine ⟨m, fun w hw => ?_⟩
    cases hh : W.heap[(0 : Nat)]? with
    | none => simp [World.cell?, hh] at hm
    | some o =>
      have := agrees_iff hw hh
      simp only [World.cell?, hh] at hm
      simp only [World.cell?, this]
      exact hm
  pow10 := fun w hw => var_agrees hw (tab_of (g := 2) (t := 87) (e := 39) (n := 20) (by kernel_rfl) (by kernel_rfl) (by kernel_rfl) (by kernel_rfl) (by kernel_rfl) (by kernel_rfl) h1)
  space := fun w hw => var_agrees hw (tab_of (g := 1) (t := 80) (e := 5) (n := 256) (by kernel_rfl) (by kernel_rfl) (by kernel_rfl) (by kernel_rfl) (by kernel_rfl) (by kernel_rfl) h2)
  range := by
    obtain ⟨g, t, cs, fuel, p, hg, ht, hvar, hd⟩ := h3
    obtain rfl := Option.some.inj ((show Tryd.prog.globalNamed "strconv.ErrRange" = some 7 by kernel_rfl).symm.trans hg)
    obtain rfl := Option.some.inj ((show (Tryd.prog.globals[(7 : Nat)]?).map (·.type) = some 77 by kernel_rfl).symm.trans ht)
    obtain ⟨u, v, hcs⟩ := iface_of_trod Tryd.underlying77 hd
    refine ⟨u, v, fun w hw => var_agrees hw (hvar.trans ?_)⟩
    congr 1
    exact Array.ext' (by simpa using hcs)

/-- The abstract state at a row's beginning: nothing of ours is there. -/
def x0 (W : World) : X := ⟨⟨0, fun _ => .cells [], base W⟩, ⟨fun _ => 0, fun _ => .free⟩, W⟩
theorem x0_rel (W : World) : Rel (x0 W) where
  objs := fun id h => absurd h (Nat.not_lt_zero _)
  lt := fun _ _ => rfl
  rows := fun _ _ _ h => by cases h
  toks := fun _ _ _ h => by cases h
  hits := fun _ _ h => by cases h
  pins := fun b o h => ⟨rfl, h⟩

/-- What a contract says of the model's run. -/
theorem calls_of {P : Program} {W : World} {f : FuncId} {al : List A} {vs : List Value} {m : Nat → Nat → Prop} (hl : vs.length = al.length) (hv : ∀ (j : Nat) (a : A), al[j]? = some a → VR (x0 W) a (vs.getD j undef))
    (h : ACalls P f al (x0 W).σ m (fun e σ' => e = .ret (.bool true))) : Calls P f vs.toArray W fun e w' => e = .returned (.bool true) ∧ Below W.heap.size W w' := by
  refine (h (x0 W) vs (x0_rel W) rfl hl hv).mono ?_
  rintro e w' ⟨y, rfl, he, hr, ae, hend, rfl⟩
  obtain ⟨v, rfl, hvr⟩ := hend
  cases hvr
  exact ⟨rfl, he.os, he.tape, he.output, he.size, fun b hb => (he.blks b hb).2⟩

/-! ### A world that meets the condition -/
def ints (d : DataW Unit) : Array Value := match d with
  | .agg l => (l.map fun x => match x with | .lit (.int k n) => Value.int k n | _ => .bool false).toArray
  | _ => #[]
def ints2 (d : DataW Unit) : Array Value := match d with
  | .agg l => (l.flatMap fun x => (ints x).toList).toArray
  | _ => #[]
noncomputable def laidWorld (os : Os) : World :=
  let N := (World.settled Tryd.prog os).heap.size
  let w0 := World.holding Tryd.prog os ⟨#[.cells (Lib.whiteT.map fun (z : Nat) => Value.int .u16 (z : Int)).toArray 119, .cells #[.slice (some ⟨N, 0, none⟩) 7 7, .slice none 0 0, .int .i64 2] 116,
    .cells #[.string ⟨#[118, 97, 108, 117, 101, 32, 111, 117, 116, 32, 111, 102, 32, 114, 97, 110, 103, 101]⟩] 138, .cells #[.string ⟨#[105, 110, 118, 97, 108, 105, 100, 32, 115, 121, 110, 116, 97, 120]⟩] 138], #[], []⟩
  let put (h : Array Obj) (g : Nat) (cs : Array Value) : Array Obj := h.modify g fun
    | .cells _ t frozen => .cells cs t frozen
    | o => o
  { w0 with heap := put (put (put (put (put (put (put (put (put w0.heap 1 (Lib.asciiSpaceTab.map fun z => Value.int .u8 z).toArray) 2 (ints Rows.laid_internal_strconv_uint64pow10))
      4 (ints Rows.laid_math_bits_deBruijn32tab)) 5 (ints Rows.laid_math_bits_deBruijn64tab)) 8 (Lib.firstTab.map fun z => Value.int .u8 z).toArray) 9 (ints2 Rows.laid_unicode_utf8_acceptRanges))
      3 #[.pointer (some ⟨N + 1, 0, none⟩)]) 7 #[.iface 136 (.pointer (some ⟨N + 2, 0, none⟩))]) 6 #[.iface 136 (.pointer (some ⟨N + 3, 0, none⟩))] }
end Go.Proofs.YtjeccchbeflddaaDoor.Ga
