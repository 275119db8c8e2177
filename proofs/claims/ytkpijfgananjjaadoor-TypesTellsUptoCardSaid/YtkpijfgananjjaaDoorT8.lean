/- The law TypesTells holds for every type and every int that are together of bulk at most 1048576: TypesTells returns true, and its arguments read behind the call as they read before. Its conditions: the package-level variables that the row lists hold what the program's text lays (the card ties them); what is read is of bulk at most 1048576 (the statement's second form: beyond it strings.Join may ask for more than 2^48 bytes). -/
import Derived.Test.YtkpijfgananjjaaDoorCards
import Derived.Test.YtkpijfgananjjaaDoorTie
import Derived.Test.YtkpijfgananjjaaDoorT8a
import Derived.Test.YtkpijfgananjjaaDoorT7
import Derived.Deep.DeepHandedRow
import Derived.Deep.DeepWitnessRowRef
import Derived.Deep.DeepLaidRun
import Derived.Lib.LaidTab
import Derived.Lib.LaidU8
import Derived.Lib.SpaceR
import Derived.Shelf.Vars
set_option linter.unusedVariables false
set_option linter.unusedSimpArgs false
namespace Go.Proofs.YtkpijfgananjjaaDoor.Ga
open Go.ChangeShapes Go.WideShapes Go.ChangeAt Go.RowKit

theorem own : ownKnob Tryd.prog.godebug = none := by kernel_rfl
theorem laidOut : laidOutB Tryd.prog = true := by kernel_rfl

/-- What the program's variables hold, out of a row's condition. -/
theorem tab_of {P : Program} {w : World} {name : String} {k : IntKind} {zs : List Int} {g : Nat} {t e : TypeId} {n : Nat}
    (hg : P.globalNamed name = some g) (hty : (P.globals[g]?).map (·.type) = some t) (ht : P.underlying t = some (.array n e)) (he : P.underlying e = some (.int k)) (hce : P.cellsOf e = 1) (hct : P.cellsOf t = n)
    (h : Lib.VarReads P w name (Lib.tabData k zs)) : Lib.TabIs P w name k zs := by
  obtain ⟨g', t', cs, fuel, p, hg', ht', hvar, hd⟩ := h
  obtain rfl := Option.some.inj (hg.symm.trans hg')
  obtain rfl := Option.some.inj (hty.symm.trans ht')
  unfold Lib.TabIs
  rw [hvar, ← Lib.cells_of_tab ht he hce hct hd]

theorem agrees_iff {W w : World} (h : Agrees (base W) w) {b : Nat} {o : Obj} (hb : W.heap[b]? = some o) : w.heap[b]? = some o := h b o hb
theorem var_agrees {P : Program} {W w : World} (h : Agrees (base W) w) {name : String} {cs : Array Value} (hv : W.var? P name = some cs) : w.var? P name = some cs := by
  unfold World.var? at hv ⊢
  cases hg : P.globalNamed name with
  | none => rw [hg] at hv; cases hv
  | some g =>
    rw [hg] at hv
    simp only [Option.bind_some] at hv ⊢
    split at hv
    · rename_i cs' t fr hh
      rw [agrees_iff h hh]
      exact hv
    · cases hv
theorem b1_of {W : World} (h1 : Lib.VarReads Tryd.prog W "internal/strconv.uint64pow10" (Lib.tabData .u64 Lib.pow10Tab)) : B1 (base W) where
  pow10 := fun w hw => var_agrees hw (tab_of (g := 0) (t := 87) (e := 67) (n := 20) (by kernel_rfl) (by kernel_rfl) (by kernel_rfl) (by kernel_rfl) (by kernel_rfl) (by kernel_rfl) h1)

/-! ### A world that meets the condition -/
def ints (d : DataW Unit) : Array Value := match d with
  | .agg l => (l.map fun x => match x with | .lit (.int k n) => Value.int k n | _ => .bool false).toArray
  | _ => #[]
noncomputable def laidWorld (os : Os) : World :=
  let w0 := World.holding Tryd.prog os ⟨#[], #[], []⟩
  let put (h : Array Obj) (g : Nat) (cs : Array Value) : Array Obj := h.modify g fun
    | .cells _ t frozen => .cells cs t frozen
    | o => o
  { w0 with heap := put (put (put w0.heap 0 (ints Rows.laid_internal_strconv_uint64pow10)) 2 (ints Rows.laid_math_bits_deBruijn32tab)) 3 (ints Rows.laid_math_bits_deBruijn64tab) }
theorem laid_met (os : Os) (args : Array Value) : laidMet Tryd.prog Rows.typesTellsUptoRow.laid ((laidWorld os).forCall (fun _ _ => 0) ⟨#[], args, []⟩).memory :=
  laidMet_of_run3 10 (by kernel_rfl) (by kernel_rfl) (by kernel_rfl)
theorem laid_vars (os : Os) (args : Array Value) : ((laidWorld os).forCall (fun _ _ => 0) ⟨#[], args, []⟩).variablesRefB Tryd.prog = true := by kernel_rfl
theorem laid_rest (os : Os) (args : Array Value) : (((laidWorld os).forCall (fun _ _ => 0) ⟨#[], args, []⟩).heap.toList.drop Tryd.prog.globals.size).take ((begin Tryd.prog (fun _ _ => 0) default).world.heap.size - Tryd.prog.globals.size) =
      (begin Tryd.prog (fun _ _ => 0) default).world.heap.toList.drop Tryd.prog.globals.size := by kernel_rfl

theorem reads (os : Os) {H : Type} (enc : TypeId × Value → H) : ∃ places, DataW.whole enc Tryd.prog ((laidWorld os).forCall (fun _ _ => 0) ⟨#[], #[.agg #[.int .i64 0, .string ⟨#[]⟩, .slice none 0 0], .int .i64 0], []⟩).memory Tryd.f3.params.toList Rows.typesTellsSpec.vars false #[Value.agg #[.int .i64 0, .string ⟨#[]⟩, .slice none 0 0], .int .i64 0].toList 8 = some ([.agg [.lit (.int .i64 0), .lit (.string []), .nil], .lit (.int .i64 0)], [], places) :=
  ⟨[], by kernel_rfl⟩

set_option maxRecDepth 100000 in
theorem contract (H : Type) (enc : TypeId × Value → H) (W : World) (base0 : Nat) (args : Array Value) (ds gs : List (DataW H)) (before : List MemPlace)
    (hval : ∀ (j : Nat) t v, Tryd.f3.params[j]? = some t → args[j]? = some v → Value.okWide Tryd.prog W .any base0 t v)
    (hW : DataW.Whole enc Tryd.prog Tryd.f3.params.toList Rows.typesTellsSpec.vars false W args.toList ds gs before)
    (hk : Rows.uptoSmall H (ds ++ gs) = true) (hL : laidMetH Tryd.prog Rows.typesTellsUptoRow.laid W) :
    Calls Tryd.prog 3 args W fun e W' => ∃ v, e = .returned v ∧ Rows.typesTellsSpec.post enc Tryd.prog Tryd.f3 false true false false W args v W' := by
  have hW' := hW
  have hlt0 := fun p hp => hW.lt p hp
  obtain ⟨p, q, hA0, hV, rfl, hfz, hnd⟩ := hW
  have hA : DataW.TrodAll enc Tryd.prog W 0 (fun _ => true) true Tryd.f3.params.toList args.toList ds p := hA0
  rw [Tryd.params3] at hA hval
  obtain ⟨v0, v1, d0, d1, p0, p1, rfl, rfl, rfl, h0, h1⟩ := trodAll_two hA
  obtain ⟨rfl, rfl⟩ := trodVars_none hV
  obtain ⟨a1, rfl, rfl, rfl, w1⟩ := open_int Tryd.underlying3 (hval 1 3 v1 rfl rfl) h1
  have hv0 := hval 0 24 v0 rfl rfl
  unfold Value.okWide at hv0
  rw [Tryd.underlying24] at hv0
  obtain ⟨cs, rfl, hcs, _⟩ := hv0
  have h0k := h0
  obtain ⟨fuel, h0f⟩ := h0
  obtain ⟨t, t1, t2, t3, t4⟩ := trod_ty _ fuel _ (d0, p0) (Nat.le_refl _) h0f
  clear hA0
  simp only [List.append_nil] at hW' hk hlt0
  have hb0 : Rows.uptoBulk d0 ≤ 1048576 := by
    have h := of_decide_eq_true hk
    simp only [Rows.uptoBulkAll] at h
    omega
  have hL' : laidMet Tryd.prog Rows.typesTellsUptoRow.laid W := hL
  have hB : B1 (base W) := b1_of (Lib.laidMet.reads hL' (.tail _ (.tail _ (.head _))))
  have r1 : -9223372036854775808 ≤ a1 ∧ a1 < 9223372036854775808 := wf_range w1
  have walk : Calls Tryd.prog 3 #[.agg cs, .int .i64 a1] W fun e w' => e = .returned (.bool true) ∧ Below W.heap.size W w' :=
    calls_of1 (al := [t.a, .int .i64 a1]) (vs := [.agg cs, .int .i64 a1]) (m := Non) rfl (fun j a hj => by
      match j with
      | 0 =>
        injection hj with hj
        subst hj
        obtain ⟨v, s, l⟩ := t
        rw [Ty.a_mk'] at t2 ⊢
        refine .agg _ cs (by have : cs.toList.length = 3 := t1; simpa using this) (fun j c hj => ?_)
        have := t2 j c hj
        have e : cs.getD j undef = (Value.agg cs).cells.toList.getD j undef := by
          show _ = cs.toList.getD j undef
          rw [Array.getD_eq_getD_getElem?, List.getD_eq_getElem?_getD]; simp
        rw [e]
        exact this
      | 1 => injection hj with hj; subst hj; exact .int _ _
      | j + 2 => cases hj) (tells_ok t (by simp only at t3; omega) (fit_mono hb0 t t4) a1 r1.1 r1.2 _ hB Non)
  refine walk.mono fun e W' ⟨he, hb⟩ => ?_
  subst he
  refine ⟨_, rfl, _, _, _, [], p0, [], hW', ?_, ?_, ?_, hb.frame _, fun h => by cases h⟩
  · exact trodAll_mk1 (shut_bool Tryd.underlying4 true)
  · have := trodAll_mk2 (Below.trod laidOut (by kernel_rfl) (of_decide_eq_true (by kernel_rfl)) h0k hb (fun x hx => hlt0 x hx)) (shut_int Tryd.underlying3 w1)
    simp only [List.append_nil] at this
    exact this
  · exact rfl

set_option maxRecDepth 100000 in
theorem lifted (os : Os) (started : os.Started) (H : Type) (enc : TypeId × Value → H) (F : Stop.Interp) :
    ReturnsInHanded {} Tryd.checked os 3 .any ((Rows.OpenSpec.upto Rows.typesTellsSpec).preRow enc Tryd.prog Tryd.f3 Rows.typesTellsUptoRow.domain false Rows.typesTellsUptoRow.laid) (((Rows.OpenSpec.upto Rows.typesTellsSpec).at F).post enc Tryd.prog Tryd.f3 false true false false) := by
  obtain ⟨places, hx⟩ := reads os enc
  refine returnsInHanded_of_row (C := Tryd.checked) (s := Rows.OpenSpec.upto Rows.typesTellsSpec) own started (by kernel_rfl) Tryd.func3
    (witness_row_atRef (enc := enc) (C := Tryd.checked) false (laidWorld os) #[.agg #[.int .i64 0, .string ⟨#[]⟩, .slice none 0 0], .int .i64 0] rfl (laid_vars os _) (laid_rest os _) (by kernel_rfl)
      (OpenSpec.preRow_of_cond 8 hx (by kernel_rfl) (fun k hk => by cases hk; kernel_rfl) (by kernel_rfl) (laid_met os _))) ?_
  intro W base args ds gs before hval hW _ hcond _ hL _ _
  exact contract H enc W base args ds gs before hval hW (hcond _ rfl) hL

theorem said : Rows.TypesTellsUptoSaid :=
  OpenClaim.holds_of_cond 3 Tryd.f3 rfl rfl rfl rfl rfl rfl rfl ⟨rfl, rfl, rfl, rfl, rfl⟩ rfl rfl rfl rfl rfl (by kernel_rfl) Tryd.func3 (by kernel_rfl)
    (of_decide_eq_true (by kernel_rfl)) (by unfold Func.isWrapper; first | (rw [if_pos (by decide +kernel)]; kernel_rfl) | (rw [if_neg (by decide +kernel)]; exact ⟨rfl, rfl⟩))
    (fun os started H enc _ F => by rw [OpenClaim.pre_eq_preRow]; exact lifted os started H enc F)

theorem plain (f : FuncId) (fn : Func) (hf : Tryd.pinned.checked.prog.funcNamed "grapnel/grapnellaw10.TypesTells" = some f) (hfn : Tryd.pinned.checked.prog.funcs[f]? = some fn) :
    false = Tryd.pinned.checked.prog.looks [] ∧ ∀ (j : Nat) t, fn.params[j]? = some t → Tryd.pinned.checked.prog.wantsStandIn t = false := by
  obtain rfl : f = 3 := Option.some.inj ((show Tryd.prog.funcNamed "grapnel/grapnellaw10.TypesTells" = some 3 by kernel_rfl).symm.trans hf) |>.symm
  obtain rfl : fn = Tryd.f3 := (Option.some.inj (Tryd.func3.symm.trans hfn)).symm
  refine ⟨by kernel_rfl, fun j t ht => ?_⟩
  rw [Tryd.params3] at ht
  have hm := Array.mem_of_getElem? ht
  simp only [List.mem_toArray, List.mem_cons, List.mem_nil_iff, or_false] at hm
  rcases hm with rfl | rfl
  · exact (show Tryd.prog.wantsStandIn 24 = false by kernel_rfl)
  · exact (show Tryd.prog.wantsStandIn 3 = false by kernel_rfl)
end Go.Proofs.YtkpijfgananjjaaDoor.Ga
namespace Go.Proofs.YtkpijfgananjjaaDoor
theorem typesTells_holds : Rows.TypesTellsUptoCardSaid :=
  Claim7.holds_tied_plain_at .later [] _ _ _ _ Ga.said (fun _ h => by cases h) (by kernel_rfl) (fun _ h => by cases h) typesTellsUpto_row_tie rfl ⟨rfl, rfl⟩ (by kernel_rfl) rfl Ga.plain (by kernel_rfl)
#print axioms typesTells_holds
end Go.Proofs.YtkpijfgananjjaaDoor
