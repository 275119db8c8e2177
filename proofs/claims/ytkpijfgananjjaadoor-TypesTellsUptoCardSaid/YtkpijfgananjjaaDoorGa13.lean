/- What a call has made and nobody leads to is forgotten; what was owned is so no more. -/
import Derived.Test.YtkpijfgananjjaaDoorGa12
set_option linter.unusedVariables false
set_option linter.unusedSimpArgs false
namespace Go.Proofs.YtkpijfgananjjaaDoor.Ga

/-- a' is a, but for who owns what; it leads to no object from n on. -/
inductive Str (n : Nat) : A → A → Prop where
  | int (k : IntKind) (i : Int) : Str n (.int k i) (.int k i)
  | bool (b : Bool) : Str n (.bool b) (.bool b)
  | str (s : List UInt8) : Str n (.str s) (.str s)
  | nilp : Str n .nilp .nilp
  | nils : Str n .nils .nils
  | nilm : Str n .nilm .nilm
  | nilf : Str n .nilf .nilf
  | nili : Str n .nili .nili
  | ptr (id off : Nat) (h : id < n) : Str n (.ptr id off) (.ptr id off)
  | map (id : Nat) (h : id < n) : Str n (.map id) (.map id)
  | os (id off len sz : Nat) (h : id < n) : Str n (.os id off len sz) (.os id off len sz)
  | rp (cs cs' : List A) (hl : cs'.length = cs.length) (h : ∀ (j : Nat) (c c' : A), cs[j]? = some c → cs'[j]? = some c' → Str n c c') : Str n (.rp cs) (.rp cs')
  | sl (o o' : Own) (sz : Nat) (xs xs' : List A) (ho : o' = .no ∨ (o' = .full ∧ o = .full) ∨ ∃ t, o' = .tok t ∧ o = .tok t ∧ t < n) (hl : xs'.length = xs.length)
      (h : ∀ (j : Nat) (c c' : A), xs[j]? = some c → xs'[j]? = some c' → Str n c c') : Str n (.sl o sz xs) (.sl o' sz xs')
  | clos (f : FuncId) (cs cs' : List A) (hl : cs'.length = cs.length) (h : ∀ (j : Nat) (c c' : A), cs[j]? = some c → cs'[j]? = some c' → Str n c c') : Str n (.clos f cs) (.clos f cs')
  | iface (t : TypeId) (a a' : A) (h : Str n a a') : Str n (.iface t a) (.iface t a')
  | agg (cs cs' : List A) (hl : cs'.length = cs.length) (h : ∀ (j : Nat) (c c' : A), cs[j]? = some c → cs'[j]? = some c' → Str n c c') : Str n (.agg cs) (.agg cs')
  | tup (cs cs' : List A) (hl : cs'.length = cs.length) (h : ∀ (j : Nat) (c c' : A), cs[j]? = some c → cs'[j]? = some c' → Str n c c') : Str n (.tup cs) (.tup cs')

theorem getElem?_len {α : Type} {l l' : List α} (hl : l'.length = l.length) {j : Nat} {c : α} (h : l'[j]? = some c) : ∃ d, l[j]? = some d := by
  have : j < l'.length := by
    rcases Nat.lt_or_ge j l'.length with q | q
    · exact q
    · rw [List.getElem?_eq_none q] at h; cases h
  exact ⟨_, List.getElem?_eq_getElem (by omega)⟩

theorem Str.cells {n : Nat} {a a' : A} (h : Str n a a') : a'.cells.length = a.cells.length ∧ ∀ (j : Nat) (c c' : A), a.cells[j]? = some c → a'.cells[j]? = some c' → Str n c c' := by
  have one : ∀ {a a' : A}, Str n a a' → a.cells = [a] → a'.cells = [a'] → a'.cells.length = a.cells.length ∧ ∀ (j : Nat) (c c' : A), a.cells[j]? = some c → a'.cells[j]? = some c' → Str n c c' := by
    intro a a' h h1 h2
    rw [h1, h2]
    refine ⟨rfl, fun j c c' hc hc' => ?_⟩
    cases j with
    | zero => simp at hc hc'; subst hc hc'; exact h
    | succ j => simp at hc
  cases h with
  | agg cs cs' hl h => exact ⟨hl, h⟩
  | int => exact one (.int ..) rfl rfl
  | bool => exact one (.bool ..) rfl rfl
  | str => exact one (.str ..) rfl rfl
  | nilp => exact one .nilp rfl rfl
  | nils => exact one .nils rfl rfl
  | nilm => exact one .nilm rfl rfl
  | nilf => exact one .nilf rfl rfl
  | nili => exact one .nili rfl rfl
  | ptr id off h => exact one (.ptr id off h) rfl rfl
  | map id h => exact one (.map id h) rfl rfl
  | os id off len sz h => exact one (.os id off len sz h) rfl rfl
  | rp cs cs' hl h => exact one (.rp cs cs' hl h) rfl rfl
  | sl o o' sz xs xs' ho hl h => exact one (.sl o o' sz xs xs' ho hl h) rfl rfl
  | clos f cs cs' hl h => exact one (.clos f cs cs' hl h) rfl rfl
  | iface t a a' h => exact one (.iface t a a' h) rfl rfl
  | tup cs cs' hl h => exact one (.tup cs cs' hl h) rfl rfl

theorem Str.flat {n : Nat} : ∀ {xs xs' : List A}, xs'.length = xs.length → (∀ (j : Nat) (c c' : A), xs[j]? = some c → xs'[j]? = some c' → Str n c c') →
    (flat xs').length = (flat xs).length ∧ ∀ (j : Nat) (c c' : A), (flat xs)[j]? = some c → (flat xs')[j]? = some c' → Str n c c'
  | [], [], _, _ => ⟨rfl, fun j c c' h => by simp [Ga.flat] at h⟩
  | a :: r, a' :: r', hl, h => by
    have h0 := (h 0 a a' rfl rfl).cells
    have h1 := Str.flat (n := n) (xs := r) (xs' := r') (by simpa using hl) (fun j c c' hc hc' => h (j + 1) c c' (by simpa using hc) (by simpa using hc'))
    simp only [Ga.flat, List.flatMap_cons] at *
    refine ⟨by simp only [List.length_append]; omega, fun j c c' hc hc' => ?_⟩
    by_cases hj : j < a.cells.length
    · rw [List.getElem?_append_left hj] at hc
      rw [List.getElem?_append_left (by omega)] at hc'
      exact h0.2 j c c' hc hc'
    · rw [List.getElem?_append_right (by omega)] at hc
      rw [List.getElem?_append_right (by omega), h0.1] at hc'
      exact h1.2 _ c c' hc hc'
  | [], _ :: _, hl, _ => by simp at hl
  | _ :: _, [], hl, _ => by simp at hl

def filt (N : Nat) : Option Nat → Option Nat
  | none => none
  | some t => if t < N then some t else none
theorem filt_some {N t : Nat} (h : t < N) : filt N (some t) = some t := by simp [filt, h]
theorem filt_lt {N t : Nat} {o : Option Nat} (h : filt N o = some t) : o = some t ∧ t < N := by
  cases o with
  | none => cases h
  | some u => simp only [filt] at h; split at h <;> simp_all

def gcK (N : Nat) (p : Prop) [Decidable p] : BK → BK
  | .obj id => if p then .obj id else .free
  | .free => .free
  | .row k o => .row k (filt N o)

/-- The state behind, its new objects forgotten; rows are kept (but no new token's owner is told). -/
def X.gc (x y : X) (τ : St) : X := ⟨τ, ⟨x.g.blk, fun b => gcK x.σ.n (b < x.w.heap.size) (y.g.kind b)⟩, y.w⟩

theorem gc_kind_old {m : Nat → Nat → Prop} {x y : X} (hx : Rel x) (h : Evol m x y) {τ : St} {b : Nat} (hb : b < x.w.heap.size) : (x.gc y τ).g.kind b = y.g.kind b := by
  show gcK x.σ.n (b < x.w.heap.size) (y.g.kind b) = _
  have a := h.blks b hb
  cases hk : x.g.kind b with
  | free => rw [hk] at a; rw [a.1]; rfl
  | obj id =>
    rw [hk] at a
    have a' : y.g.kind b = .obj id := a
    rw [a']; simp [gcK, hb]
  | row k o =>
    rw [hk] at a
    obtain ⟨k', _, a2, _⟩ := a
    rw [a2]
    show BK.row k' (filt x.σ.n o) = _
    cases o with
    | none => rfl
    | some t => rw [filt_some (hx.toks b k t hk)]

theorem gc_kind_row {x y : X} {τ : St} {b k : Nat} {o : Option Nat} (hb : y.g.kind b = .row k o) : (x.gc y τ).g.kind b = .row k (filt x.σ.n o) := by
  show gcK x.σ.n (b < x.w.heap.size) (y.g.kind b) = _
  rw [hb]
  rfl

theorem gc_row_kind {x y : X} {τ : St} {b k : Nat} {o : Option Nat} (hb : (x.gc y τ).g.kind b = .row k o) : ∃ o', y.g.kind b = .row k o' ∧ o = filt x.σ.n o' := by
  have h : gcK x.σ.n (b < x.w.heap.size) (y.g.kind b) = .row k o := hb
  cases hk : y.g.kind b with
  | obj id => rw [hk] at h; simp only [gcK] at h; split at h <;> cases h
  | free => rw [hk] at h; cases h
  | row k' o' => rw [hk] at h; injection h with h1 h2; subst h1; exact ⟨o', rfl, h2.symm⟩

/-- A value in the state behind. -/
theorem VR.gc {m : Nat → Nat → Prop} {x y : X} (hx : Rel x) (h : Evol m x y) (hy : Rel y) {τ : St} (hn : τ.n = x.σ.n) (ho : ∀ id, id < x.σ.n → τ.obj id = y.σ.obj id) {a a' : A} {v : Value} (hv : VR y a v) (hs : Str x.σ.n a a') : VR (x.gc y τ) a' v := by
  have own : ∀ {o o' : Own} {b off len sz cap : Nat}, (o' = .no ∨ (o' = .full ∧ o = .full) ∨ ∃ t, o' = .tok t ∧ o = .tok t ∧ t < x.σ.n) → OwnOk y b off len sz cap o → OwnOk (x.gc y τ) b off len sz cap o' := by
    intro o o' b off len sz cap hoo hk
    rcases hoo with rfl | ⟨rfl, rfl⟩ | ⟨t, rfl, rfl, ht⟩
    · trivial
    · exact hk
    · obtain ⟨h1, hC, hw, h2, h3, h4⟩ := hk
      refine ⟨by show t < τ.n; omega, fun hlen => ?_, hw, (ho t ht).trans h2, h3, fun e => ?_⟩
      · obtain ⟨c0, k, cs, et, c1, c2⟩ := hC hlen
        exact ⟨c0, k, cs, et, (gc_kind_row c1).trans (by rw [filt_some ht]), c2⟩
      rcases h4 e with h4 | ⟨h9, h5, cs, et, h6, h7⟩
      · exact .inl h4
      · right
        exact ⟨h9, (gc_kind_row h5).trans (by rw [filt_some ht]), cs, et, h6, h7⟩
  induction hv generalizing a' with
  | int k i => cases hs; exact .int ..
  | bool b => cases hs; exact .bool ..
  | str s => cases hs; exact .str ..
  | nilp => cases hs; exact .nilp
  | nils => cases hs; exact .nils
  | nilm => cases hs; exact .nilm
  | nilf => cases hs; exact .nilf
  | nili => cases hs; exact .nili
  | ptr id off cs hid hc =>
    cases hs with
    | ptr _ _ hlt =>
      have a := h.objs id hlt
      have e : y.g.blk id = x.g.blk id := by
        cases hq : x.σ.obj id with
        | cells cs0 => rw [hq] at a; exact a.1
        | map es => rw [hq] at a; exact a.1
        | row hw => rw [hq] at a; obtain ⟨hw', a1, _⟩ := a; rw [hc] at a1; cases a1
      rw [e]
      exact .ptr id off cs (by show id < τ.n; omega) ((ho id hlt).trans hc)
  | rp cs b off k o vs hk hle hc hv ih =>
    cases hs with
    | rp _ cs' hl hss =>
      refine .rp cs' b off k _ vs (gc_kind_row hk) (by omega) (fun j hj => hc j (by omega)) (fun j c hj => ?_)
      obtain ⟨d, hd⟩ := getElem?_len hl hj
      exact ih j d hd (hss j d c hd hj)
  | sl o sz xs cs b off cap k ow vs hcs hsz hcap hk hc hv hok ih =>
    cases hs with
    | sl _ o' _ _ xs' hoo hl hss =>
      obtain ⟨hfl, hfs⟩ := Str.flat hl hss
      subst hcs
      rw [← hl]
      have hne : flat xs' ≠ [] → flat xs ≠ [] := fun q q' => q (List.eq_nil_of_length_eq_zero (by rw [hfl, q']; rfl))
      have hsz' : ∀ e ∈ xs', e.cells.length = sz := fun e he => by
        obtain ⟨j, hj, rfl⟩ := List.getElem_of_mem he
        have hj' : j < xs.length := by omega
        rw [(hss j xs[j] xs'[j] (by simp [hj']) (by simp [hj])).cells.1]
        exact hsz _ (List.getElem_mem hj')
      by_cases hemp : flat xs' = []
      · exact .sl o' sz xs' (flat xs') b off cap k ow vs rfl hsz' (by omega) (fun q => absurd hemp q) (fun j hj => by rw [hemp] at hj; simp at hj) (fun j c hj => by rw [hemp] at hj; simp at hj) (by rw [hl]; exact own hoo hok)
      · obtain ⟨hk1, hk2⟩ := hk (hne hemp)
        exact .sl o' sz xs' (flat xs') b off cap k _ vs rfl hsz' (by omega) (fun _ => ⟨gc_kind_row hk1, by omega⟩) (fun j hj => hc j (by omega))
          (fun j c hj => by
            obtain ⟨d, hd⟩ := getElem?_len hfl hj
            exact ih j d hd (hfs j d c hd hj)) (by rw [hl]; exact own hoo hok)
  | slnil o sz hok =>
    cases hs with
    | sl _ o' _ _ xs' hoo hl hss =>
      obtain rfl : xs' = [] := List.eq_nil_of_length_eq_zero (by simpa using hl)
      exact .slnil o' sz (own hoo hok)
  | slz sz ad cap =>
    cases hs with
    | sl _ o' _ _ xs' hoo hl hss =>
      obtain rfl : xs' = [] := List.eq_nil_of_length_eq_zero (by simpa using hl)
      obtain rfl : o' = .no := by
        rcases hoo with h | ⟨_, h⟩ | ⟨t, _, h, _⟩
        · exact h
        · cases h
        · cases h
      exact .slz sz ad cap
  | map id es hid hc =>
    cases hs with
    | map _ hlt =>
      have a := h.objs id hlt
      have e : y.g.blk id = x.g.blk id := by
        cases hq : x.σ.obj id with
        | cells cs0 => rw [hq] at a; exact a.1
        | map es => rw [hq] at a; exact a.1
        | row hw => rw [hq] at a; obtain ⟨hw', a1, _⟩ := a; rw [hc] at a1; cases a1
      rw [e]
      exact .map id es (by show id < τ.n; omega) ((ho id hlt).trans hc)
  | os id off len sz cap cs hid hc hle hcap =>
    cases hs with
    | os _ _ _ _ hlt =>
      have a := h.objs id hlt
      have e : y.g.blk id = x.g.blk id := by
        cases hq : x.σ.obj id with
        | cells cs0 => rw [hq] at a; exact a.1
        | map es => rw [hq] at a; exact a.1
        | row hw => rw [hq] at a; obtain ⟨hw', a1, _⟩ := a; rw [hc] at a1; cases a1
      rw [e]
      exact .os id off len sz cap cs (by show id < τ.n; omega) ((ho id hlt).trans hc) hle hcap
  | clos f caps vs hl hv ih =>
    cases hs with
    | clos _ _ cs' hl' hss => exact .clos f cs' vs (by omega) (fun j c hj => by obtain ⟨d, hd⟩ := getElem?_len hl' hj; exact ih j d hd (hss j d c hd hj))
  | iface t a v hv ih =>
    cases hs with
    | iface _ _ a' hss => exact .iface t a' v (ih hss)
  | agg cs vs hl hv ih =>
    cases hs with
    | agg _ cs' hl' hss => exact .agg cs' vs (by omega) (fun j c hj => by obtain ⟨d, hd⟩ := getElem?_len hl' hj; exact ih j d hd (hss j d c hd hj))
  | tup cs vs hl hv ih =>
    cases hs with
    | tup _ cs' hl' hss => exact .tup cs' vs (by omega) (fun j c hj => by obtain ⟨d, hd⟩ := getElem?_len hl' hj; exact ih j d hd (hss j d c hd hj))


/-- The cells that may have been written lead to nothing that is forgotten. -/
def Closed (m : Nat → Nat → Prop) (n : Nat) (σ : St) : Prop :=
  ∀ id, id < n → match σ.obj id with
    | .cells cs => ∀ off c, m id off → cs[off]? = some c → Str n c c
    | .map es => m id 0 → ∀ (j : Nat) (k v : A), es[j]? = some (k, v) → Str n k k ∧ Str n v v
    | .row _ => True

theorem gc_ok {m : Nat → Nat → Prop} {x y : X} (hx : Rel x) (h : Evol m x y) (hy : Rel y) {τ : St} (hn : τ.n = x.σ.n) (hbase : τ.base = x.σ.base) (ho : ∀ id, id < x.σ.n → τ.obj id = y.σ.obj id) (hcl : Closed m x.σ.n y.σ) :
    Evol m x (x.gc y τ) ∧ Rel (x.gc y τ) := by
  have he : Evol m x (x.gc y τ) :=
    { n := Nat.le_of_eq hn.symm
      size := h.size
      os := h.os
      base := hbase
      tape := h.tape
      output := h.output
      objs := fun id hid => by
        have a := h.objs id hid
        cases hq : x.σ.obj id with
        | cells cs => rw [hq] at a; obtain ⟨_, cs', a2, a3, a4⟩ := a; exact ⟨rfl, cs', (ho id hid).trans a2, a3, a4⟩
        | map es => rw [hq] at a; obtain ⟨_, es', a2, a3⟩ := a; exact ⟨rfl, es', (ho id hid).trans a2, a3⟩
        | row hw => rw [hq] at a; obtain ⟨hw', a1, a2, a3⟩ := a; exact ⟨hw', (ho id hid).trans a1, a2, a3⟩
      blks := fun b hb => by
        have a := h.blks b hb
        have e := gc_kind_old hx h (τ := τ) hb
        cases hk : x.g.kind b with
        | free => rw [hk] at a; exact ⟨e.trans a.1, a.2⟩
        | obj id => rw [hk] at a; exact e.trans a
        | row k o =>
          rw [hk] at a
          obtain ⟨k', a1, a2, a3, a4⟩ := a
          exact ⟨k', a1, e.trans a2, a3, fun t hw h1 h2 h3 h4 => a4 t hw h1 h2 h3 (by rw [← ho t h2]; exact h4)⟩ }
  refine ⟨he, ?_⟩
  have blk : ∀ id, id < x.σ.n → (∀ hw, x.σ.obj id ≠ .row hw) → y.g.blk id = x.g.blk id := fun id hid hr => by
    have a := h.objs id hid
    cases hq : x.σ.obj id with
    | cells cs => rw [hq] at a; exact a.1
    | map es => rw [hq] at a; exact a.1
    | row hw => exact absurd hq (hr hw)
  refine { objs := fun id hid => ?_, lt := fun b hb => ?_, rows := fun b k o hk => (by obtain ⟨o', q, _⟩ := gc_row_kind hk; exact hy.rows b k o' q), toks := fun b k t hk => (by obtain ⟨o', _, q⟩ := gc_row_kind hk; have := (filt_lt q.symm).2; show t < τ.n; omega), hits := fun b id hk => ?_, pins := fun b o hb => ?_ }
  · have hid' : id < x.σ.n := by have : id < τ.n := hid; omega
    have hidy : id < y.σ.n := Nat.lt_of_lt_of_le hid' h.n
    have e : (x.gc y τ).σ.obj id = y.σ.obj id := ho id hid'
    rw [e]
    have a := h.objs id hid'
    have b := hy.objs id hidy
    have c := hx.objs id hid'
    have d := hcl id hid'
    cases hq : x.σ.obj id with
    | cells cs =>
      rw [hq] at a c
      obtain ⟨a1, cs', a2, a3, a4⟩ := a
      rw [a2] at b d
      rw [a2]
      obtain ⟨b1, arr, et, b2, b3, b4⟩ := b
      obtain ⟨c1, arr0, et0, c2, c3, c4⟩ := c
      have hlt : x.g.blk id < x.w.heap.size := hx.blk_lt (by rw [c1]; simp)
      refine ⟨?_, arr, et, by show y.w.heap[x.g.blk id]? = _; rw [← a1]; exact b2, b3, fun off c hc => ?_⟩
      · show (x.gc y τ).g.kind (x.g.blk id) = _
        rw [gc_kind_old hx h hlt, ← a1]
        exact b1
      · by_cases hm : m id off
        · exact VR.gc hx h hy hn ho (b4 off c hc) (d off c hm hc)
        · obtain ⟨a5, a6⟩ := a4 off hm
          rw [a5] at hc
          have := (c4 off c hc).evol he hx
          rw [a1] at b2
          have e2 : arr[off]? = arr0[off]? := by rw [← cell_of b2, ← cell_of c2]; exact a6
          rwa [arr_getD (a := arr) (b := arr0) (i := off) (j := off) e2]
    | map es =>
      rw [hq] at a c
      obtain ⟨a1, es', a2, a3⟩ := a
      rw [a2] at b d
      rw [a2]
      obtain ⟨b1, ents, clock, b2, b3, b4⟩ := b
      obtain ⟨c1, ents0, clock0, c2, c3, c4⟩ := c
      have hlt : x.g.blk id < x.w.heap.size := hx.blk_lt (by rw [c1]; simp)
      refine ⟨?_, ents, clock, by show y.w.heap[x.g.blk id]? = _; rw [← a1]; exact b2, b3, fun j k v hj => ?_⟩
      · show (x.gc y τ).g.kind (x.g.blk id) = _
        rw [gc_kind_old hx h hlt, ← a1]
        exact b1
      · by_cases hm : m id 0
        · obtain ⟨d1, d2⟩ := d hm j k v hj
          exact ⟨VR.gc hx h hy hn ho (b4 j k v hj).1 d1, VR.gc hx h hy hn ho (b4 j k v hj).2 d2⟩
        · obtain ⟨a4, a5⟩ := a3 hm
          rw [a1, a5, c2] at b2
          injection b2 with b2
          injection b2 with b2
          subst b2 a4
          exact ⟨(c4 j k v hj).1.evol he hx, (c4 j k v hj).2.evol he hx⟩
    | row hw =>
      rw [hq] at a
      obtain ⟨hw', a1, _⟩ := a
      rw [a1]
      trivial
  · have := hy.lt b hb
    show gcK x.σ.n (b < x.w.heap.size) (y.g.kind b) = _
    rw [this]
    rfl
  · have hk' : gcK x.σ.n (b < x.w.heap.size) (y.g.kind b) = .obj id := hk
    cases hq : y.g.kind b with
    | free => rw [hq] at hk'; cases hk'
    | row k o => rw [hq] at hk'; cases hk'
    | obj i =>
      rw [hq] at hk'
      simp only [gcK] at hk'
      split at hk'
      · rename_i hlt
        injection hk' with hk'
        subst hk'
        have a := h.blks b hlt
        cases hk0 : x.g.kind b with
        | free => rw [hk0] at a; rw [a.1] at hq; cases hq
        | row k o => rw [hk0] at a; obtain ⟨k', _, a2, _⟩ := a; rw [a2] at hq; cases hq
        | obj i' =>
          rw [hk0] at a
          have a' : y.g.kind b = .obj i' := a
          rw [hq] at a'
          injection a' with a'
          subst a'
          obtain ⟨g1, g2⟩ := hx.hits b i hk0
          exact ⟨by show i < τ.n; omega, g2⟩
      · cases hk'
  · have hb' : τ.base b = some o := hb
    rw [hbase] at hb'
    obtain ⟨h1, h2⟩ := hx.pins b o hb'
    have hlt : b < x.w.heap.size := by
      rcases Nat.lt_or_ge b x.w.heap.size with q | q
      · exact q
      · rw [Array.getElem?_eq_none q] at h2; cases h2
    have a := he.blks b hlt
    exact pinned_step h1 h2 a (fun k own hk => by obtain ⟨o', q, _⟩ := gc_row_kind hk; exact hy.rows b k o' q)

inductive EStr (n : Nat) : AEnd → AEnd → Prop where
  | ret (a a' : A) (h : Str n a a') : EStr n (.ret a) (.ret a')
  | pan (a a' : A) (h : Str n a a') : EStr n (.pan a) (.pan a')

/-- A contract, what is forgotten being forgotten. -/
theorem ACalls.gc {P : Program} {f : FuncId} {args : List A} {σ : St} {m : Nat → Nat → Prop} {R R' : AEnd → St → Prop} (h : ACalls P f args σ m R)
    (hR : ∀ e σ', Kept m σ σ' → R e σ' → ∃ τ e', τ.n = σ.n ∧ τ.base = σ.base ∧ (∀ id, id < σ.n → τ.obj id = σ'.obj id) ∧ Closed m σ.n σ' ∧ EStr σ.n e e' ∧ R' e' τ) : ACalls P f args σ m R' := by
  intro x vs hx hσ hl hv
  refine (h x vs hx hσ hl hv).mono ?_
  rintro e w' ⟨y, rfl, he, hr, ae, hae, hRe⟩
  subst hσ
  obtain ⟨τ, e', h1, hb, h2, h3, h4, h5⟩ := hR ae y.σ he.kept hRe
  obtain ⟨g1, g2⟩ := gc_ok hx he hr h1 hb h2 h3
  refine ⟨x.gc y τ, rfl, g1, g2, e', ?_, h5⟩
  cases h4 with
  | ret a a' hs =>
    obtain ⟨v, rfl, hv⟩ := hae
    exact ⟨v, rfl, VR.gc hx he hr h1 h2 hv hs⟩
  | pan a a' hs =>
    obtain ⟨v, rfl, hv⟩ := hae
    exact ⟨v, rfl, VR.gc hx he hr h1 h2 hv hs⟩

end Go.Proofs.YtkpijfgananjjaaDoor.Ga
