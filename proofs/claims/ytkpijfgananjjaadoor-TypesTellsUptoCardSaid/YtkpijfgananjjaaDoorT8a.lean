/- A type that is handed to a law, as a type of ours; the state at a row's beginning where all of its blocks stay as they are. -/
import Derived.Test.YtkpijfgananjjaaDoorRows
import Derived.Test.YtkpijfgananjjaaDoorTb
import Derived.Test.YtkpijfgananjjaaDoorT0
import Derived.WalkKit
import Derived.ProofKit
import Derived.OpenShut
import Derived.Carry
import Derived.Deep.Slices
import Derived.Deep.Strs
set_option linter.unusedVariables false
set_option linter.unusedSimpArgs false
namespace Go.Proofs.YtkpijfgananjjaaDoor.Ga
open Go.ChangeShapes Go.WideShapes Go.ChangeAt Go.RowKit Go.Deep

def base (W : World) : Nat → Option Obj := fun b => W.heap[b]?
/-- The abstract state at a row's beginning: each block of cells is a row. -/
def x1 (W : World) : X := ⟨⟨0, fun _ => .cells [], base W⟩, ⟨fun _ => 0, fun b => match W.heap[b]? with | some (.cells cs _ _) => .row cs.size none | _ => .free⟩, W⟩
theorem x1_row {W : World} {b : Nat} {cs : Array Value} {e : TypeId} {fr : Nat × Nat} (h : W.heap[b]? = some (.cells cs e fr)) : (x1 W).g.kind b = .row cs.size none := by
  show (match W.heap[b]? with | some (.cells cs _ _) => BK.row cs.size none | _ => .free) = _
  rw [h]
theorem x1_inv {W : World} {b k : Nat} {o : Option Nat} (h : (x1 W).g.kind b = .row k o) : o = none ∧ ∃ cs e fr, W.heap[b]? = some (.cells cs e fr) ∧ k = cs.size := by
  have h' : (match W.heap[b]? with | some (.cells cs _ _) => BK.row cs.size none | _ => .free) = .row k o := h
  split at h'
  · rename_i cs e fr hh
    injection h' with h1 h2
    exact ⟨h2.symm, cs, e, fr, hh, h1.symm⟩
  · cases h'
theorem x1_rel (W : World) : Rel (x1 W) where
  objs := fun id h => absurd h (Nat.not_lt_zero _)
  lt := fun b h => by
    have : W.heap[b]? = none := Array.getElem?_eq_none h
    show (match W.heap[b]? with | some (.cells cs _ _) => BK.row cs.size none | _ => .free) = _
    rw [this]
  rows := fun b k o h => by
    obtain ⟨_, cs, e, fr, h1, h2⟩ := x1_inv h
    exact ⟨cs, e, fr, h1, by omega⟩
  toks := fun b k t h => by
    obtain ⟨h1, _⟩ := x1_inv h
    cases h1
  hits := fun b id h => by
    have h' : (match W.heap[b]? with | some (.cells cs _ _) => BK.row cs.size none | _ => .free) = .obj id := h
    split at h' <;> cases h'
  pins := fun b o h => by
    have hh : W.heap[b]? = some o := h
    refine ⟨?_, hh⟩
    cases o with
    | cells cs e fr => exact .inr ⟨cs, e, fr, rfl, x1_row hh⟩
    | map es c =>
      left
      show (match W.heap[b]? with | some (.cells cs _ _) => BK.row cs.size none | _ => .free) = _
      rw [hh]
    | _ =>
      left
      show (match W.heap[b]? with | some (.cells cs _ _) => BK.row cs.size none | _ => .free) = _
      rw [hh]

/-- What a contract says of the model's run. -/
theorem calls_of1 {P : Program} {W : World} {f : FuncId} {al : List A} {vs : List Value} {m : Nat → Nat → Prop} (hl : vs.length = al.length) (hv : ∀ (j : Nat) (a : A), al[j]? = some a → VR (x1 W) a (vs.getD j undef))
    (h : ACalls P f al (x1 W).σ m (fun e σ' => σ' = (x1 W).σ ∧ e = .ret (.bool true))) : Calls P f vs.toArray W fun e w' => e = .returned (.bool true) ∧ Below W.heap.size W w' := by
  refine (h (x1 W) vs (x1_rel W) rfl hl hv).mono ?_
  rintro e w' ⟨y, rfl, he, hr, ae, hend, _, rfl⟩
  obtain ⟨v, rfl, hvr⟩ := hend
  cases hvr
  refine ⟨rfl, he.os, he.tape, he.output, he.size, fun b hb => ?_⟩
  have a := he.blks b hb
  cases hk : (x1 W).g.kind b with
  | free => rw [hk] at a; exact a.2
  | obj id => exact absurd ((x1_rel W).hits b id hk).1 (Nat.not_lt_zero _)
  | row k o =>
    rw [hk] at a
    obtain ⟨k', _, _, ⟨cs, e, fr, cs', h1, h2, h3, h4⟩, _⟩ := a
    obtain ⟨_, cs0, e0, fr0, h5, h6⟩ := x1_inv hk
    have h1' : W.heap[b]? = some (.cells cs e fr) := h1
    rw [h5] at h1'
    injection h1' with h1'
    injection h1' with q1 q2 q3
    subst q1 q2 q3
    have : cs' = cs0 := Array.ext (by omega) (fun i hi hi' => by
      have := h4 i (by omega)
      rw [Array.getElem?_eq_getElem hi, Array.getElem?_eq_getElem hi'] at this
      injection this)
    show y.w.heap[b]? = W.heap[b]?
    rw [h2, h5, this]

section
variable {H : Type} {enc : TypeId × Value → H} {W : World} {sp : Nat → Bool} {held : Bool}
theorem t_int {n : Nat} {cs : List Value} {y : DataW H × List MemPlace} (h : DataW.trod enc Tryd.prog W 0 sp held n 3 cs = some y) : ∃ v, cs = [.int .i64 v] ∧ (Lit.int .i64 v).wf = true ∧ y.1 = .lit (.int .i64 v) := by
  cases n with
  | zero => simp [DataW.trod] at h
  | succ n =>
    rcases cs with _ | ⟨c, _ | ⟨c2, r⟩⟩
    · simp [DataW.trod, Tryd.underlying3] at h
    · cases c <;> simp [DataW.trod, Tryd.underlying3] at h
      obtain ⟨⟨rfl, h1⟩, rfl⟩ := h
      exact ⟨_, rfl, h1, rfl⟩
    · simp [DataW.trod, Tryd.underlying3] at h
theorem t_str {n : Nat} {cs : List Value} {y : DataW H × List MemPlace} (h : DataW.trod enc Tryd.prog W 0 sp held n 9 cs = some y) : ∃ s : List UInt8, cs = [.string ⟨s.toArray⟩] ∧ y.1 = .lit (.string s) := by
  cases n with
  | zero => simp [DataW.trod] at h
  | succ n =>
    rcases cs with _ | ⟨c, _ | ⟨c2, r⟩⟩
    · simp [DataW.trod, Tryd.underlying9] at h
    · cases c <;> simp [DataW.trod, Tryd.underlying9] at h
      rename_i s
      obtain ⟨h1, rfl⟩ := h
      exact ⟨s.data.toList, by simp, rfl⟩
    · simp [DataW.trod, Tryd.underlying9] at h

theorem wf_range {v : Int} (h : (Lit.int .i64 v).wf = true) : -9223372036854775808 ≤ v ∧ v < 9223372036854775808 := by
  have e1 : IntKind.i64.min = -9223372036854775808 := by decide
  have e2 : IntKind.i64.max = 9223372036854775807 := by decide
  simp [Lit.wf, e1, e2] at h
  omega

theorem bulk_all_mem {d : DataW H} : ∀ {l : List (DataW H)}, d ∈ l → Rows.uptoBulk d ≤ Rows.uptoBulkAll l
  | e :: r, h => by
    rcases List.mem_cons.1 h with rfl | h
    · simp only [Rows.uptoBulkAll]; omega
    · have := bulk_all_mem h; simp only [Rows.uptoBulkAll]; omega

theorem fit_mono {B C : Nat} (h : B ≤ C) : ∀ t : Ty, t.fit B → t.fit C := Ty.ind fun v s l ih hf => by
  simp only [Ty.fit] at hf ⊢
  refine ⟨hf.1, hf.2.1, by omega, ?_⟩
  have key : ∀ l : List Ty, (∀ x ∈ l, x.fit B → x.fit C) → Ty.fits B l → Ty.fits C l := by
    intro l
    induction l with
    | nil => intro _ _; simp only [Ty.fits]
    | cons t r h => intro ih hf; simp only [Ty.fits] at hf ⊢; exact ⟨ih t (List.mem_cons_self ..) hf.1, h (fun x hx => ih x (List.mem_cons_of_mem _ hx)) hf.2⟩
  exact key l ih hf.2.2.2

theorem c24 : Tryd.prog.cellsOf 24 = 3 := by kernel_rfl
theorem c3 : Tryd.prog.cellsOf 3 = 1 := by kernel_rfl
theorem c9 : Tryd.prog.cellsOf 9 = 1 := by kernel_rfl
theorem c22 : Tryd.prog.cellsOf 22 = 1 := by kernel_rfl

/-- What is handed is a type: its cells. -/
theorem trod_ty : ∀ (N fuel : Nat) (cs : List Value) (y : DataW H × List MemPlace), Rows.uptoBulk y.1 ≤ N → DataW.trod enc Tryd.prog W 0 sp held fuel 24 cs = some y →
    ∃ t : Ty, cs.length = 3 ∧ (∀ (j : Nat) c, t.a.cells[j]? = some c → VR (x1 W) c (cs.getD j undef)) ∧ t.nn ≤ Rows.uptoBulk y.1 ∧ t.fit (Rows.uptoBulk y.1) := by
  intro N
  induction N with
  | zero =>
    intro fuel cs y hN h
    obtain ⟨y0, y1, y2, n, rfl, _⟩ := trod_struct3 Tryd.underlying24 h
    simp [Rows.uptoBulk] at hN
  | succ N ih =>
    intro fuel cs y hN h
    obtain ⟨y0, y1, y2, n, rfl, hl, h0, h1, h2⟩ := trod_struct3 Tryd.underlying24 h
    rw [c24] at hl
    simp only [c3, c9, c22] at h0 h1 h2
    obtain ⟨a0, a1, a2, rfl⟩ : ∃ a b c, cs = [a, b, c] := by
      match cs, hl with
      | [a, b, c], _ => exact ⟨a, b, c, rfl⟩
    obtain ⟨v, e0, hv, f0⟩ := t_int h0
    obtain ⟨s, e1, f1⟩ := t_str h1
    obtain rfl : a0 = .int .i64 v := by simpa using e0
    obtain rfl : a1 = .string ⟨s.toArray⟩ := by simpa using e1
    have hvr := wf_range hv
    simp only [Rows.uptoBulk, Rows.uptoBulkAll, f0, f1] at hN ⊢
    have h2 : DataW.trod enc Tryd.prog W 0 sp held n 22 [a2] = some y2 := h2
    have three : ∀ (l : List Ty), VR (x1 W) (.sl .no 3 (Ty.as l)) a2 → (Ty.nns l ≤ Rows.uptoBulk y2.1) → Ty.fits (Rows.uptoBulk y2.1) l →
        ∃ t : Ty, [Value.int .i64 v, .string ⟨s.toArray⟩, a2].length = 3 ∧ (∀ (j : Nat) c, t.a.cells[j]? = some c → VR (x1 W) c ([Value.int .i64 v, .string ⟨s.toArray⟩, a2].getD j undef)) ∧ t.nn ≤ 1 + (s.length + 1 + (Rows.uptoBulk y2.1 + 0)) + 1 ∧ t.fit (1 + (s.length + 1 + (Rows.uptoBulk y2.1 + 0)) + 1) := fun l g1 g2 g3 => by
      refine ⟨.mk v s l, rfl, fun j c hj => ?_, by simp only [Ty.nn]; omega, ?_⟩
      · rw [Ty.a_mk'] at hj
        match j with
        | 0 => injection hj with hj; subst hj; exact .int _ _
        | 1 => injection hj with hj; subst hj; exact .str _
        | 2 => injection hj with hj; subst hj; exact g1
        | j + 3 => cases hj
      · simp only [Ty.fit]
        refine ⟨hvr.1, hvr.2, by omega, ?_⟩
        have := fit_mono (show Rows.uptoBulk y2.1 ≤ 1 + (s.length + 1 + (Rows.uptoBulk y2.1 + 0)) + 1 by omega) (.mk 0 [] l) (by simp only [Ty.fit]; exact ⟨by omega, by omega, by simp, g3⟩)
        simp only [Ty.fit] at this
        exact this.2.2.2
    rcases open_slice Tryd.underlying22 h2 with ⟨hcs, rfl⟩ | ⟨a, len, cap, m, n', D, Pl, hcs, _, hlc, _, hm, rfl, hel⟩
    · obtain rfl : a2 = .slice none 0 0 := by simpa using hcs
      exact three [] (.slnil .no 3 trivial) (by simp [Ty.nns]) (by simp [Ty.fits])
    · obtain rfl : a2 = .slice (some a) len cap := by simpa using hcs
      rw [c24] at hel
      have hlm : len ≤ m := by rw [hm]; split <;> omega
      by_cases h0 : len = 0
      · subst h0
        exact three [] (.slz 3 (some a) cap) (by simp [Ty.nns]) (by simp [Ty.fits])
      · have each : ∀ i, i < len → ∃ t : Ty, (∀ j, j < 3 → ∃ u, W.cell? ((a.add (i * 3)).add j) = some u ∧ ∀ c, t.a.cells[j]? = some c → VR (x1 W) c u) ∧ t.nn ≤ Rows.uptoBulk (D i) ∧ t.fit (Rows.uptoBulk (D i)) := fun i hi => by
          obtain ⟨cs', k1, k2⟩ := hel i (by omega)
          obtain ⟨_, k3, k4⟩ := World.cells?_some k1
          have hb : Rows.uptoBulk (D i) ≤ Rows.uptoBulkAll ((List.range len).map D) := bulk_all_mem (List.mem_map.2 ⟨i, List.mem_range.2 hi, rfl⟩)
          simp only [Rows.uptoBulk] at hN
          obtain ⟨t, t1, t2, t3, t4⟩ := ih n' cs' (D i, Pl i) (by show Rows.uptoBulk (D i) ≤ N; omega) k2
          refine ⟨t, fun j hj => ⟨cs'.getD j undef, ?_, fun c hc => t2 j c hc⟩, t3, t4⟩
          rw [k4 j hj, List.getD_eq_getElem?_getD, List.getElem?_eq_getElem (by omega)]
          rfl
        obtain ⟨l, l1, l2⟩ : ∃ l : List Ty, l.length = len ∧ ∀ i t, l[i]? = some t → (∀ j, j < 3 → ∃ u, W.cell? ((a.add (i * 3)).add j) = some u ∧ ∀ c, t.a.cells[j]? = some c → VR (x1 W) c u) ∧ t.nn ≤ Rows.uptoBulk (D i) ∧ t.fit (Rows.uptoBulk (D i)) := by
          have key : ∀ k, k ≤ len → ∃ l : List Ty, l.length = k ∧ ∀ i t, l[i]? = some t → (∀ j, j < 3 → ∃ u, W.cell? ((a.add (i * 3)).add j) = some u ∧ ∀ c, t.a.cells[j]? = some c → VR (x1 W) c u) ∧ t.nn ≤ Rows.uptoBulk (D i) ∧ t.fit (Rows.uptoBulk (D i)) := by
            intro k
            induction k with
            | zero => intro _; exact ⟨[], rfl, fun i t h => by simp at h⟩
            | succ k ihk =>
              intro hk
              obtain ⟨l, l1, l2⟩ := ihk (by omega)
              obtain ⟨t, ht⟩ := each k (by omega)
              refine ⟨l ++ [t], by simp [l1], fun i u hu => ?_⟩
              rcases Nat.lt_or_ge i l.length with q | q
              · rw [List.getElem?_append_left q] at hu; exact l2 i u hu
              · rw [List.getElem?_append_right q] at hu
                obtain rfl : i = k := by
                  rcases Nat.lt_or_ge (i - l.length) 1 with q' | q'
                  · omega
                  · rw [List.getElem?_eq_none (by simpa using q')] at hu; cases hu
                rw [l1, Nat.sub_self] at hu
                injection hu with hu
                subst hu
                exact ht
          exact key len (Nat.le_refl _)
        obtain ⟨b, off, sp'⟩ := a
        have hget : ∀ i, i < len → ∃ t, l[i]? = some t := fun i hi => ⟨_, List.getElem?_eq_getElem (by omega)⟩
        obtain ⟨t0, ht0⟩ := hget 0 (by omega)
        obtain ⟨u0, hu0, _⟩ := (l2 0 t0 ht0).1 0 (by omega)
        obtain rfl : sp' = none := by simpa [Addr.add] using World.cell?_spot hu0
        have hadd : ∀ i j, ((⟨b, off, none⟩ : Addr).add (i * 3)).add j = ⟨b, off + (i * 3 + j), none⟩ := fun i j => by
          rw [add_lit, add_lit, Nat.add_assoc]
        have hflat : (flat (Ty.as l)).length = len * 3 := by
          rw [flat_length (sz := 3) (fun e he => by rw [Ty.as_map] at he; obtain ⟨t, _, rfl⟩ := List.mem_map.1 he; exact (Ty.cells t).1), len_as, l1]
        have hcell : ∀ j, j < len * 3 → ∃ u, W.cell? ⟨b, off + j, none⟩ = some u ∧ ∀ c, (flat (Ty.as l))[j]? = some c → VR (x1 W) c u := fun j hj => by
          obtain ⟨t, ht⟩ := hget (j / 3) (by omega)
          obtain ⟨u, k1, k2⟩ := (l2 (j / 3) t ht).1 (j % 3) (by omega)
          rw [hadd, show j / 3 * 3 + j % 3 = j by omega] at k1
          refine ⟨u, k1, fun c hc => k2 c ?_⟩
          rw [← hc]
          have := flat_at (sz := 3) (xs := Ty.as l) (i := j / 3) (e := t.a) (fun e he => by rw [Ty.as_map] at he; obtain ⟨t, _, rfl⟩ := List.mem_map.1 he; exact (Ty.cells t).1) (by rw [Ty.as_map, List.getElem?_map, ht]; rfl) (j := j % 3) (by omega)
          rw [show j / 3 * 3 + j % 3 = j by omega] at this
          exact this.symm
        obtain ⟨ul, hul, _⟩ := hcell (len * 3 - 1) (by omega)
        obtain ⟨arr, e, fr, harr, hsz⟩ : ∃ arr e fr, W.heap[b]? = some (.cells arr e fr) ∧ off + (len * 3 - 1) < arr.size := by
          unfold World.cell? at hul
          simp only at hul
          split at hul
          · rename_i arr e fr hh
            simp at hul
            exact ⟨arr, e, fr, hh, (Array.getElem?_eq_some_iff.1 hul).1⟩
          · cases hul
        have hbl : Ty.nns l ≤ Rows.uptoBulkAll ((List.range len).map D) ∧ Ty.fits (Rows.uptoBulkAll ((List.range len).map D)) l := by
          have key : ∀ (l : List Ty) (k : Nat), (∀ i t, l[i]? = some t → t.nn ≤ Rows.uptoBulk (D (k + i)) ∧ t.fit (Rows.uptoBulk (D (k + i)))) → Ty.nns l ≤ Rows.uptoBulkAll ((List.range l.length).map fun i => D (k + i)) ∧ Ty.fits (Rows.uptoBulkAll ((List.range l.length).map fun i => D (k + i))) l := by
            intro l
            induction l with
            | nil => intro k _; simp [Ty.nns, Ty.fits]
            | cons t r h =>
              intro k hp
              obtain ⟨q1, q2⟩ := hp 0 t rfl
              obtain ⟨q3, q4⟩ := h (k + 1) (fun i u hu => by have := hp (i + 1) u (by simpa using hu); rwa [show k + (i + 1) = k + 1 + i by omega] at this)
              have e : (List.range (t :: r).length).map (fun i => D (k + i)) = D k :: (List.range r.length).map (fun i => D (k + 1 + i)) := by
                rw [List.length_cons, List.range_succ_eq_map, List.map_cons, List.map_map]
                congr 1
                refine List.map_congr_left fun i _ => ?_
                show D (k + (i + 1)) = _
                rw [show k + (i + 1) = k + 1 + i by omega]
              rw [e]
              simp only [Ty.nns, Ty.fits, Rows.uptoBulkAll]
              rw [Nat.add_zero] at q1 q2
              refine ⟨by omega, fit_mono (by omega) _ q2, ?_⟩
              have := fit_mono (show Rows.uptoBulkAll ((List.range r.length).map fun i => D (k + 1 + i)) ≤ Rows.uptoBulk (D k) + Rows.uptoBulkAll ((List.range r.length).map fun i => D (k + 1 + i)) by omega) (.mk 0 [] r) (by simp only [Ty.fit]; exact ⟨by omega, by omega, by simp, q4⟩)
              simp only [Ty.fit] at this
              exact this.2.2.2
          have := key l 0 (fun i t ht => by rw [Nat.zero_add]; exact ⟨(l2 i t ht).2.1, (l2 i t ht).2.2⟩)
          simpa [l1] using this
        refine three l ?_ (by simp only [Rows.uptoBulk]; omega) ?_
        · have hlen : len = (Ty.as l).length := by rw [len_as, l1]
          rw [show (Value.slice (some ⟨b, off, none⟩) len cap) = .slice (some ⟨b, off, none⟩) (Ty.as l).length cap by rw [← hlen]]
          refine .sl .no 3 (Ty.as l) (flat (Ty.as l)) b off cap arr.size none (fun j => (W.cell? ⟨b, off + j, none⟩).getD undef) rfl (fun e he => by rw [Ty.as_map] at he; obtain ⟨t, _, rfl⟩ := List.mem_map.1 he; exact (Ty.cells t).1) (by omega) (fun _ => ⟨x1_row harr, by omega⟩) (fun j hj => ?_) (fun j c hj => ?_) trivial
          · obtain ⟨u, k1, _⟩ := hcell j (by omega)
            show W.cell? _ = _
            rw [k1]; rfl
          · have hj' : j < len * 3 := by
              rcases Nat.lt_or_ge j (flat (Ty.as l)).length with q | q
              · omega
              · rw [List.getElem?_eq_none q] at hj; cases hj
            obtain ⟨u, k1, k2⟩ := hcell j hj'
            rw [k1]
            exact k2 c hj
        · have := fit_mono (show Rows.uptoBulkAll ((List.range len).map D) ≤ Rows.uptoBulk (.slice ((List.range len).map D) ((List.range (m - len)).map fun j => D (len + j))) by simp only [Rows.uptoBulk]; omega) (.mk 0 [] l) (by simp only [Ty.fit]; exact ⟨by omega, by omega, by simp, hbl.2⟩)
          simp only [Ty.fit] at this
          exact this.2.2.2
end
end Go.Proofs.YtkpijfgananjjaaDoor.Ga
