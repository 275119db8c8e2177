/- A slice that a call has made anew becomes a variable of the caller's: its elements may be written. -/
import Derived.Test.YtjeccchbeflddaaDoorGa14
set_option linter.unusedVariables false
set_option linter.unusedSimpArgs false
namespace Go.Proofs.YtjeccchbeflddaaDoor.Ga

/-- Values that lead nowhere. -/
def Plain (a : A) : Prop := ∀ (x y : X) (v : Value), VR x a v → VR y a v
theorem Plain.int (k : IntKind) (n : Int) : Plain (.int k n) := fun x y v h => by cases h; exact .int _ _
theorem Plain.str (s : List UInt8) : Plain (.str s) := fun x y v h => by cases h; exact .str _
theorem Plain.bool (b : Bool) : Plain (.bool b) := fun x y v h => by cases h; exact .bool _

theorem own_ok {x y : X} (hx : Rel x) (h : Evol (fun _ _ => False) x y) (hy : Rel y) {t sz : Nat} {xs : List A} {v0 : Value} (hv : VR y (.sl (.tok t) sz xs) v0) (ht : x.σ.n ≤ t) (hne : flat xs ≠ []) (hp : ∀ c ∈ flat xs, Plain c) :
    ∃ z : X, z.w = y.w ∧ Evol (fun _ _ => False) x z ∧ Rel z ∧ z.σ = x.σ.new (.cells (flat xs)) ∧ VR z (.os x.σ.n 0 xs.length sz) v0 := by
  have hxs : 0 < xs.length := by cases xs with | nil => exact absurd rfl hne | cons => simp
  cases hv with
  | slnil => simp at hxs
  | sl _ _ _ cs b off cap k own vs hcs hsz hcap hk hc hvv ho =>
    subst hcs
    obtain ⟨o1, oC, _⟩ := ho
    obtain ⟨rfl, k', arr, e, kb, hb⟩ := oC hxs
    have hnew : x.w.heap.size ≤ b := by
      refine Nat.le_of_not_lt fun hlt => ?_
      have a := h.blks b hlt
      cases hq : x.g.kind b with
      | free => rw [hq] at a; rw [a.1] at kb; cases kb
      | obj id => rw [hq] at a; have a' : y.g.kind b = .obj id := a; rw [a'] at kb; cases kb
      | row k0 o0 =>
        rw [hq] at a
        obtain ⟨k1, _, a2, _⟩ := a
        rw [a2] at kb
        injection kb with _ q
        subst q
        have := hx.toks b k0 t hq
        omega
    have hbs : b < y.w.heap.size := hy.blk_lt (by rw [kb]; simp)
    obtain ⟨g1, g2⟩ := gc_ok (τ := { n := x.σ.n, obj := x.σ.obj, base := x.σ.base }) hx h hy rfl rfl (fun id hid => (h.kept.same hid (fun _ q => q)).symm) (fun id hid => by
      cases y.σ.obj id with
      | cells cs => exact fun off c q => q.elim
      | map es => exact fun q => q.elim
      | row hw => trivial)
    generalize hz0 : x.gc y { n := x.σ.n, obj := x.σ.obj, base := x.σ.base } = z0 at g1 g2
    have zw : z0.w = y.w := by rw [← hz0]; rfl
    have zσ : z0.σ = x.σ := by rw [← hz0]; rfl
    have hlen : (flat xs).length = xs.length * sz := flat_length hsz
    let z : X := ⟨x.σ.new (.cells (flat xs)), ⟨upd z0.g.blk x.σ.n b, upd z0.g.kind b (.obj x.σ.n)⟩, y.w⟩
    have hzb : ∀ id, id < x.σ.n → z.g.blk id = z0.g.blk id := fun id hid => upd_ne _ _ (by omega)
    have hzk : ∀ b', b' ≠ b → z.g.kind b' = z0.g.kind b' := fun b' q => upd_ne _ _ q
    have hzo : ∀ id, id < x.σ.n → z.σ.obj id = x.σ.obj id := fun id hid => upd_ne _ _ (by omega)
    have he : Evol (fun _ _ => False) x z :=
      { n := Nat.le_succ _
        size := h.size
        os := h.os
        base := rfl
        tape := h.tape
        output := h.output
        objs := fun id hid => by
          have a := g1.objs id hid
          cases hq : x.σ.obj id with
          | cells cs =>
            rw [hq] at a
            obtain ⟨a1, cs', a2, a3, a4⟩ := a
            refine ⟨(hzb id hid).trans a1, cs, (hzo id hid).trans hq, rfl, fun off q => ⟨rfl, ?_⟩⟩
            have := (a4 off q).2
            rw [zw] at this
            exact this
          | map es =>
            rw [hq] at a
            obtain ⟨a1, es', a2, a3⟩ := a
            refine ⟨(hzb id hid).trans a1, es, (hzo id hid).trans hq, fun q => ⟨rfl, ?_⟩⟩
            have := (a3 q).2
            rw [zw] at this
            exact this
          | row hw => exact ⟨hw, (hzo id hid).trans hq, Nat.le_refl _, fun _ => rfl⟩
        blks := fun b' hb' => by
          have a := g1.blks b' hb'
          have e1 := hzk b' (by omega)
          cases hq : x.g.kind b' with
          | free => rw [hq] at a; obtain ⟨a1, a2⟩ := a; rw [zw] at a2; exact ⟨e1.trans a1, a2⟩
          | obj id => rw [hq] at a; exact e1.trans a
          | row k0 o0 =>
            rw [hq] at a
            obtain ⟨k1, a1, a2, a3, a4⟩ := a
            rw [zw] at a3
            exact ⟨k1, a1, e1.trans a2, a3, fun t' hw' q1 q2 q3 q4 => a4 t' hw' q1 q2 q3 (by rw [zσ]; exact q3)⟩ }
    refine ⟨z, rfl, he, ?_, rfl, ?_⟩
    · refine hx.step he (fun id hid => .inr ?_) (fun b' hb' => ?_) (fun b' k0 o0 hk0 => ?_) (fun b' id hk0 => ?_) (fun b' k0 t0 hk0 => ?_)
      · by_cases hie : id = x.σ.n
        · subst hie
          have e0 : z.σ.obj x.σ.n = .cells (flat xs) := upd_same _ _ _
          have e1 : z.g.blk x.σ.n = b := upd_same _ _ _
          rw [e0]
          refine ⟨?_, arr, e, ?_, ?_, fun j c hj => ?_⟩
          · rw [e1]; exact upd_same _ _ _
          · rw [e1]; exact hb
          · refine Nat.le_of_not_lt fun q => ?_
            have := hc arr.size q
            rw [cell_of hb, Array.getElem?_eq_none (by omega)] at this
            cases this
          · have hjl : j < (flat xs).length := by
              rcases Nat.lt_or_ge j (flat xs).length with q | q
              · exact q
              · rw [List.getElem?_eq_none q] at hj; cases hj
            have h1 := hc j hjl
            rw [cell_of hb, Nat.zero_add] at h1
            have h2 : arr.getD j undef = vs j := by rw [Array.getD_eq_getD_getElem?, h1]; rfl
            rw [h2]
            exact hp c (List.mem_of_getElem? hj) y z _ (hvv j c hj)
        · have hlt : id < x.σ.n := by have : id < x.σ.n + 1 := hid; omega
          rw [hzo id hlt]
          have a := g1.objs id hlt
          have c := g2.objs id (by rw [zσ]; exact hlt)
          have d := hx.objs id hlt
          rw [zσ] at c
          cases hq : x.σ.obj id with
          | cells cs =>
            rw [hq] at a c d
            obtain ⟨a1, cs', a2, a3, a4⟩ := a
            obtain ⟨c1, arr1, e1, c2, c3, c4⟩ := c
            obtain ⟨d1, arr0, e0, d2, d3, d4⟩ := d
            rw [zw] at c2
            have hbne : z0.g.blk id ≠ b := by
              intro q
              rw [a1] at q
              have := hx.blk_lt (b := x.g.blk id) (by rw [d1]; simp)
              omega
            refine ⟨by rw [hzb id hlt, hzk _ hbne]; exact c1, arr1, e1, by rw [hzb id hlt]; exact c2, c3, fun j cc hj => ?_⟩
            have h1 := d4 j cc hj
            have h2 := (a4 j (fun q => q)).2
            rw [zw] at h2
            rw [a1] at c2
            have e2 : arr1[j]? = arr0[j]? := by rw [← cell_of c2, ← cell_of d2]; exact h2
            rw [arr_getD (a := arr1) (b := arr0) (i := j) (j := j) e2]
            exact h1.evol he hx
          | map es =>
            rw [hq] at a c d
            obtain ⟨a1, es', a2, a3⟩ := a
            obtain ⟨d1, ents, clock, d2, d3, d4⟩ := d
            have h2 := (a3 (fun q => q)).2
            rw [zw] at h2
            obtain ⟨c1, _⟩ := c
            have hbne : z0.g.blk id ≠ b := by
              intro q
              rw [a1] at q
              have := hx.blk_lt (b := x.g.blk id) (by rw [d1]; simp)
              omega
            refine ⟨by rw [hzb id hlt, hzk _ hbne]; exact c1, ents, clock, by rw [hzb id hlt, a1]; exact h2.trans d2, d3, fun j k v hj => ⟨(d4 j k v hj).1.evol he hx, (d4 j k v hj).2.evol he hx⟩⟩
          | row hw => trivial
      · have : y.w.heap.size ≤ b' := hb'
        rw [hzk b' (by omega)]
        exact g2.lt b' (by rw [zw]; exact hb')
      · by_cases q : b' = b
        · subst q
          have : z.g.kind b' = .obj x.σ.n := upd_same _ _ _
          rw [this] at hk0; cases hk0
        · rw [hzk b' q] at hk0
          have := g2.rows b' k0 o0 hk0
          rw [zw] at this
          exact this
      · by_cases q : b' = b
        · subst q
          have : z.g.kind b' = .obj x.σ.n := upd_same _ _ _
          rw [this] at hk0
          injection hk0 with hk0
          subst hk0
          exact ⟨Nat.lt_succ_self _, upd_same _ _ _⟩
        · rw [hzk b' q] at hk0
          obtain ⟨h1, h2⟩ := g2.hits b' id hk0
          rw [zσ] at h1
          exact ⟨Nat.lt_succ_of_lt h1, (hzb id h1).trans h2⟩
      · by_cases q : b' = b
        · subst q
          have : z.g.kind b' = .obj x.σ.n := upd_same _ _ _
          rw [this] at hk0; cases hk0
        · rw [hzk b' q] at hk0
          have := g2.toks b' k0 t0 hk0
          rw [zσ] at this
          exact Nat.lt_succ_of_lt this
    · have e1 : z.g.blk x.σ.n = b := upd_same _ _ _
      rw [← e1]
      exact .os x.σ.n 0 xs.length sz cap (flat xs) (Nat.lt_succ_self _) (upd_same _ _ _) (by omega) hcap

/-- A contract whose answer begins with a slice that is new: it is the caller's. -/
theorem ACalls.own {P : Program} {f : FuncId} {args : List A} {σ : St} {R : AEnd → St → Prop} {sz : Nat} {xs : List A} {a1 a2 : A} (h : ACalls P f args σ (fun _ _ => False) R)
    (hR : ∀ e σ', R e σ' → ∃ t, σ.n ≤ t ∧ e = .ret (.tup [.sl (.tok t) sz xs, a1, a2])) (hne : flat xs ≠ []) (hp : ∀ c ∈ flat xs, Plain c) (h1 : Plain a1) (h2 : Plain a2) :
    ACalls P f args σ (fun _ _ => False) (fun e σ' => σ' = σ.new (.cells (flat xs)) ∧ e = .ret (.tup [.os σ.n 0 xs.length sz, a1, a2])) := by
  intro x vs hx hσ hl hv
  refine (h x vs hx hσ hl hv).mono ?_
  rintro e w' ⟨y, rfl, he, hr, ae, hae, hRe⟩
  subst hσ
  obtain ⟨t, ht, rfl⟩ := hR ae y.σ hRe
  obtain ⟨v, rfl, hv⟩ := hae
  cases hv with
  | tup _ us hul huv =>
    obtain ⟨z, zw, z1, z2, z3, z4⟩ := own_ok hx he hr (huv 0 _ rfl) ht hne hp
    refine ⟨z, zw, z1, z2, .ret (.tup [.os x.σ.n 0 xs.length sz, a1, a2]), ⟨_, rfl, .tup _ us hul fun j c hj => ?_⟩, z3, rfl⟩
    match j with
    | 0 => injection hj with hj; subst hj; exact z4
    | 1 => injection hj with hj; subst hj; exact h1 y z _ (huv 1 _ rfl)
    | 2 => injection hj with hj; subst hj; exact h2 y z _ (huv 2 _ rfl)
    | j + 3 => cases hj
end Go.Proofs.YtjeccchbeflddaaDoor.Ga
