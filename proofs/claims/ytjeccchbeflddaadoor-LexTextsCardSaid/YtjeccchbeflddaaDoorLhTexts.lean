/- The law LexTexts holds: for every string and every token, LexTexts returns true, and its arguments read behind the call as they read before. Its conditions: the package-level variables that the row lists hold what the program's text lays (the card ties them); a string takes no more room than the form's reach. -/
import Derived.Test.YtjeccchbeflddaaDoorLhT
import Derived.Lib.SmallJoins
import Derived.Test.YtjeccchbeflddaaDoorLq4
set_option linter.unusedVariables false
set_option linter.unusedSimpArgs false
namespace Go.Proofs.YtjeccchbeflddaaDoor.Ga
open Go.ChangeShapes Go.WideShapes Go.ChangeAt Go.RowKit
open Go.ChangeMaps (open_string shut_string)
open Go.Joins
theorem trod_str {H : Type} {enc : TypeId × Value → H} {P : Program} {w : World} {base : Nat} {sp : Nat → Bool} {held : Bool} {t : TypeId} {S : ByteArray} (ht : P.underlying t = some .string) (hs : S.size ≤ maxLen) : DataW.trod enc P w base sp held 1 t [.string S] = some (.lit (.string S.data.toList), []) := by
  simp [DataW.trod, ht, hs]
theorem reads (os : Os) {H : Type} (enc : TypeId × Value → H) : ∃ places, DataW.whole enc Tryd.prog ((laidWorld os).forCall (fun _ _ => 0) ⟨#[], #[.string ⟨#[]⟩, .agg #[.int .i64 0, .int .i64 0, .int .i64 0, .string ⟨#[]⟩]], []⟩).memory Tryd.f3.params.toList Rows.lexTextsSpec.vars false #[(.string ⟨#[]⟩ : Value), .agg #[.int .i64 0, .int .i64 0, .int .i64 0, .string ⟨#[]⟩]].toList 8 = some ([.lit (.string []), .agg [.lit (.int .i64 0), .lit (.int .i64 0), .lit (.int .i64 0), .lit (.string [])]], [], places) :=
  ⟨[], by kernel_rfl⟩
set_option maxRecDepth 100000 in
theorem contract (H : Type) (enc : TypeId × Value → H) (W : World) (base0 : Nat) (args : Array Value) (ds gs : List (DataW H)) (before : List MemPlace)
    (hval : ∀ (j : Nat) t v, Tryd.f3.params[j]? = some t → args[j]? = some v → Value.okWide Tryd.prog W .any base0 t v)
    (hW : DataW.Whole enc Tryd.prog Tryd.f3.params.toList Rows.lexTextsSpec.vars false W args.toList ds gs before)
    (hz : (DataW.weightsEach Tryd.prog (Tryd.f3.params.toList ++ (OpenSpec.ofChange Rows.lexTextsSpec).bare.plain.varTypes Tryd.prog) (ds ++ gs)).all (· ≤ reachBytes) = true) (hL : laidMetH Tryd.prog Rows.lexTextsRow.laid W) (hsh : W.ShapedOpen Tryd.prog) :
    Calls Tryd.prog 3 args W fun e W' => ∃ v, e = .returned v ∧ Rows.lexTextsSpec.post enc Tryd.prog Tryd.f3 false true false false W args v W' := by
  have hW' := hW
  obtain ⟨p, q, hA0, hV, rfl, hfz, hnd⟩ := hW
  have hA : DataW.TrodAll enc Tryd.prog W 0 (fun _ => true) true Tryd.f3.params.toList args.toList ds p := hA0
  rw [Tryd.params3] at hA hval hz
  obtain ⟨v0, v1, d0, d1, p0, p1, rfl, rfl, rfl, h0, h1⟩ := trodAll_two hA
  obtain ⟨rfl, rfl⟩ := trodVars_none hV
  obtain ⟨a0, rfl, rfl, rfl, w0⟩ := open_string Tryd.underlying9 (hval 0 9 v0 rfl rfl) h0
  obtain ⟨b0, b1, b2, b3, y0, y1, y2, y3, nn, rfl, rfl, rfl, t0, t1, t2, t3⟩ := open_agg4 Tryd.underlying23 (by kernel_rfl) (by kernel_rfl) (hval 1 23 v1 rfl rfl) h1
  obtain ⟨k, hk, rfl, wk⟩ := DataW.trod_int Tryd.underlying3 t0
  obtain ⟨at_, hat, rfl, wat⟩ := DataW.trod_int Tryd.underlying3 t1
  obtain ⟨n, hn, rfl, wn⟩ := DataW.trod_int Tryd.underlying2 t2
  obtain ⟨S, hS, rfl, wS⟩ := DataW.trod_string Tryd.underlying9 t3
  obtain rfl := (List.cons.inj hk).1
  obtain rfl := (List.cons.inj hat).1
  obtain rfl := (List.cons.inj hn).1
  obtain rfl := (List.cons.inj hS).1
  clear hA0
  simp only [List.append_nil] at hW'
  have hL' : laidMet Tryd.prog Rows.lexTextsRow.laid W := hL
  have hB : B0 (base W) := b0_of hsh (Lib.laidMet.reads hL' (.tail _ (.tail _ (.head _)))) (Lib.laidMet.reads hL' (.tail _ (.tail _ (.tail _ (.tail _ (.tail _ (.tail _ (.tail _ (.head _))))))))) (Lib.laidMet.reads hL' (.tail _ (.tail _ (.tail _ (.tail _ (.head _))))))
  have hz' : a0.data.toList.length ≤ 140737488355328 ∧ S.data.toList.length ≤ 140737488355328 := by
    simp [DataW.weightsEach, DataW.weights, reachBytes, Tryd.underlying23] at hz
    have q0 := of_decide_eq_true hz.1
    have q1 := of_decide_eq_true hz.2
    simp
    omega
  obtain ⟨z0, z1⟩ := hz'
  have rn : -9223372036854775808 ≤ n ∧ n < 9223372036854775808 := by
    have := wn
    have e1 : IntKind.i64.min = -9223372036854775808 := by decide
    have e2 : IntKind.i64.max = 9223372036854775807 := by decide
    simp [Lit.wf, e1, e2] at this
    omega
  have walk : Calls Tryd.prog 3 #[.string a0, .agg #[.int .i64 k, .int .i64 at_, .int .i64 n, .string S]] W fun e w' => e = .returned (.bool true) ∧ Below W.heap.size W w' :=
    calls_of (al := [.str a0.data.toList, .agg [.int .i64 k, .int .i64 at_, .int .i64 n, .str S.data.toList]]) (vs := [.string a0, .agg #[.int .i64 k, .int .i64 at_, .int .i64 n, .string S]]) rfl (fun j a hj => by
      match j with
      | 0 => injection hj with hj; subst hj; exact .str _
      | 1 =>
        injection hj with hj
        subst hj
        refine .agg _ _ rfl (fun j c hj => ?_)
        match j with
        | 0 => injection hj with hj; subst hj; exact .int _ _
        | 1 => injection hj with hj; subst hj; exact .int _ _
        | 2 => injection hj with hj; subst hj; exact .int _ _
        | 3 => injection hj with hj; subst hj; exact .str _
        | j + 4 => cases hj
      | j + 2 => cases hj) (texts_ok a0.data.toList k at_ n S.data.toList z0 z1 rn _ hB)
  refine walk.mono fun e W' ⟨he, hb⟩ => ?_
  subst he
  refine ⟨_, rfl, _, _, _, [], [], [], hW', ?_, ?_, ?_, hb.frame _, fun h => by cases h⟩
  · exact trodAll_mk1 (shut_bool Tryd.underlying4 true)
  · exact trodAll_mk2 (shut_string Tryd.underlying9 w0) (shut_agg4 Tryd.underlying23 (by kernel_rfl) (by kernel_rfl) ⟨1, trod_int_mk 0 Tryd.underlying3 wk⟩ ⟨1, trod_int_mk 0 Tryd.underlying3 wat⟩ ⟨1, trod_int_mk 0 Tryd.underlying2 wn⟩ ⟨1, trod_str Tryd.underlying9 wS⟩)
  · exact rfl

set_option maxRecDepth 100000 in
theorem lifted (os : Os) (started : os.Started) (H : Type) (enc : TypeId × Value → H) (F : Stop.Interp) :
    ReturnsInHanded {} Tryd.checked os 3 .any ((OpenSpec.ofChange Rows.lexTextsSpec).preRow enc Tryd.prog Tryd.f3 Rows.lexTextsRow.domain false Rows.lexTextsRow.laid) (((OpenSpec.ofChange Rows.lexTextsSpec).at F).post enc Tryd.prog Tryd.f3 false true false false) := by
  obtain ⟨places, hx⟩ := reads os enc
  refine returnsInHanded_of_row (C := Tryd.checked) (s := OpenSpec.ofChange Rows.lexTextsSpec) own started (by kernel_rfl) Tryd.func3
    (witness_row_atRef (enc := enc) (C := Tryd.checked) false (laidWorld os) #[.string ⟨#[]⟩, .agg #[.int .i64 0, .int .i64 0, .int .i64 0, .string ⟨#[]⟩]] rfl (laid_vars os _) (laid_rest os _) (by kernel_rfl)
      (OpenSpec.preRow_of_cond 8 hx (by kernel_rfl) (fun k hk => by cases hk) (by kernel_rfl) (laid_met os _))) ?_
  intro W base args ds gs before hval hW _ _ hz hL hsh _
  exact contract H enc W base args ds gs before hval hW hz hL hsh

theorem said : Rows.LexTextsSaid :=
  OpenClaim.holds_of_cond 3 Tryd.f3 rfl rfl rfl rfl rfl rfl rfl ⟨rfl, rfl, rfl, rfl, rfl⟩ rfl rfl rfl rfl rfl (by kernel_rfl) Tryd.func3 (by kernel_rfl)
    (of_decide_eq_true (by kernel_rfl)) (by unfold Func.isWrapper; first | (rw [if_pos (by decide +kernel)]; kernel_rfl) | (rw [if_neg (by decide +kernel)]; exact ⟨rfl, rfl⟩))
    (fun os started H enc _ F => by rw [OpenClaim.pre_eq_preRow]; exact lifted os started H enc F)

theorem plain (f : FuncId) (fn : Func) (hf : Tryd.pinned.checked.prog.funcNamed "grapnel/grapnellaw07.LexTexts" = some f) (hfn : Tryd.pinned.checked.prog.funcs[f]? = some fn) :
    true = Tryd.pinned.checked.prog.looks [] ∧ ∀ (j : Nat) t, fn.params[j]? = some t → Tryd.pinned.checked.prog.wantsStandIn t = false := by
  obtain rfl : f = 3 := Option.some.inj ((show Tryd.prog.funcNamed "grapnel/grapnellaw07.LexTexts" = some 3 by kernel_rfl).symm.trans hf) |>.symm
  obtain rfl : fn = Tryd.f3 := (Option.some.inj (Tryd.func3.symm.trans hfn)).symm
  refine ⟨by kernel_rfl, fun j t ht => ?_⟩
  rw [Tryd.params3] at ht
  have hm := Array.mem_of_getElem? ht
  simp only [List.mem_toArray, List.mem_cons, List.mem_nil_iff, or_false] at hm
  rcases hm with rfl | rfl
  · exact (show Tryd.prog.wantsStandIn 9 = false by kernel_rfl)
  · exact (show Tryd.prog.wantsStandIn 23 = false by kernel_rfl)
end Go.Proofs.YtjeccchbeflddaaDoor.Ga
namespace Go.Proofs.YtjeccchbeflddaaDoor
theorem lexTexts_holds : Rows.LexTextsCardSaid :=
  Claim7.holds_tied_plain_at .later [] _ _ _ _ Ga.said (fun _ h => by cases h) (by kernel_rfl) (fun _ h => by cases h) lexTexts_row_tie rfl ⟨rfl, rfl⟩ (by kernel_rfl) rfl Ga.plain (by kernel_rfl)
#print axioms lexTexts_holds
end Go.Proofs.YtjeccchbeflddaaDoor
