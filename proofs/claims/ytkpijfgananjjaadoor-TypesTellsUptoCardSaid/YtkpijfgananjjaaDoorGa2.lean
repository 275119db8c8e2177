/- Append, over abstract states: in place, into a new row; whose token it is. -/
import Derived.Test.YtkpijfgananjjaaDoorGa1
import Derived.Deep.AppendSrc
import Derived.Laws.Append
set_option linter.unusedVariables false
set_option linter.unusedSimpArgs false
namespace Go.Proofs.YtkpijfgananjjaaDoor.Ga

def X.push (x : X) (t hw k b o : Nat) (vs : List Value) : X := ⟨x.σ.set t (.row hw), ⟨x.g.blk, upd x.g.kind b (.row k (some t))⟩, x.w.setCells b o vs⟩
def X.move (x : X) (t hw k : Nat) (arr : Array Value) (e : TypeId) : X := ⟨x.σ.set t (.row hw), ⟨x.g.blk, upd x.g.kind x.w.heap.size (.row k (some t))⟩, x.w.alloc (.cells arr e)⟩
/-- A token alone. -/
def X.tok (x : X) (hw : Nat) : X := ⟨x.σ.new (.row hw), x.g, x.w⟩

theorem X.push_ok {m : Nat → Nat → Prop} {x : X} (h : Rel x) (t hw0 hw k b o : Nat) (vs : List Value) (arr : Array Value) (e : TypeId) (ht : t < x.σ.n) (ho : x.σ.obj t = .row hw0) (hlt : hw0 < hw)
    (hb : x.g.kind b = .row o (some t)) (ha : x.w.heap[b]? = some (.cells arr e (0, 0))) (hle : o + vs.length ≤ arr.size) (hk : k = o + vs.length) (hm : m t 0) :
    Evol m x (x.push t hw k b o vs) ∧ Rel (x.push t hw k b o vs) := by
  have e1 := heap_setCells b vs o x.w arr e (0, 0) ha
  have eo := os_setCells b vs o x.w
  have hobj : ∀ i, i < x.σ.n → (∀ q, x.σ.obj i ≠ .row q) → x.g.blk i ≠ b := fun i hi hr heq => by
    have c := h.objs i hi
    cases hoi : x.σ.obj i with
    | cells _ => rw [hoi] at c; have c1 := c.1; rw [heq, hb] at c1; cases c1
    | map _ => rw [hoi] at c; have c1 := c.1; rw [heq, hb] at c1; cases c1
    | row q => exact hr q hoi
  have he : Evol m x (x.push t hw k b o vs) :=
    { n := Nat.le_refl _
      size := Nat.le_of_eq (size_setCells _ _ _ _).symm
      os := eo.1
      base := rfl
      tape := eo.2.1
      output := eo.2.2
      objs := fun i hi => by
        by_cases hie : i = t
        · subst hie
          rw [ho]
          exact ⟨hw, upd_same _ _ _, Nat.le_of_lt hlt, fun q => absurd hm q⟩
        · have e2 : (x.push t hw k b o vs).σ.obj i = x.σ.obj i := upd_ne _ _ hie
          cases hoi : x.σ.obj i with
          | cells cs' =>
            refine ⟨rfl, cs', e2.trans hoi, rfl, fun off _ => ⟨rfl, ?_⟩⟩
            exact World.cell?_of_block (heap_setCells_ne _ _ _ _ _ (hobj i hi (by rw [hoi]; simp)))
          | map es => exact ⟨rfl, es, e2.trans hoi, fun _ => ⟨rfl, heap_setCells_ne _ _ _ _ _ (hobj i hi (by rw [hoi]; simp))⟩⟩
          | row q => exact ⟨q, e2.trans hoi, Nat.le_refl _, fun _ => rfl⟩
      blks := fun b' hb' => by
        by_cases hbb : b' = b
        · subst hbb
          rw [hb]
          refine ⟨k, by omega, upd_same _ _ _, ⟨arr, e, (0, 0), setArr arr o vs, ha, e1, setArr_size _ _ _, fun j hj => setArr_out _ _ _ _ (by omega)⟩, fun t' hw' et ht' h1 h2 => ?_⟩
          injection et with et
          subst et
          rw [ho] at h1
          injection h1 with h1
          have : (x.push t hw k b' o vs).σ.obj t = .row hw := upd_same _ _ _
          rw [this] at h2
          injection h2 with h2
          omega
        · have e4 : (x.push t hw k b o vs).g.kind b' = x.g.kind b' := upd_ne _ _ hbb
          have e3 := heap_setCells_ne b vs o x.w b' hbb
          cases hk' : x.g.kind b' with
          | free => exact ⟨e4.trans hk', e3⟩
          | obj i => exact e4.trans hk'
          | row k' own =>
            obtain ⟨cs1, e2, fr, h1, _⟩ := h.rows b' k' own hk'
            exact ⟨k', Nat.le_refl _, e4.trans hk', ⟨cs1, e2, fr, cs1, h1, e3.trans h1, rfl, fun _ _ => rfl⟩, fun _ _ _ _ _ _ => rfl⟩ }
  refine ⟨he, h.step he (fun i hi => ?_) (fun b' hb' => ?_) (fun b' k' own hk' => ?_) (fun b' i hk' => ?_) (fun b' k' t' hk' => ?_)⟩
  · by_cases hie : i = t
    · subst hie
      right
      have : (x.push i hw k b o vs).σ.obj i = .row hw := upd_same _ _ _
      rw [this]
      trivial
    · exact .inl ⟨hi, upd_ne _ _ hie, rfl, fun hr => heap_setCells_ne _ _ _ _ _ (hobj i hi hr)⟩
  · have hs : (x.w.setCells b o vs).heap.size = x.w.heap.size := size_setCells _ _ _ _
    have hb2 : x.w.heap.size ≤ b' := by rw [← hs]; exact hb'
    have hne : b' ≠ b := fun q => by have := h.lt b' hb2; rw [q, hb] at this; cases this
    exact (upd_ne _ _ hne).trans (h.lt b' hb2)
  · by_cases hbb : b' = b
    · subst hbb
      have : (x.push t hw k b' o vs).g.kind b' = .row k (some t) := upd_same _ _ _
      rw [this] at hk'
      injection hk' with q1 q2
      subst q1
      exact ⟨_, e, (0, 0), e1, by rw [setArr_size]; omega⟩
    · have e4 : (x.push t hw k b o vs).g.kind b' = x.g.kind b' := upd_ne _ _ hbb
      rw [e4] at hk'
      obtain ⟨cs1, e2, fr, h1, h2⟩ := h.rows b' k' own hk'
      exact ⟨cs1, e2, fr, (heap_setCells_ne _ _ _ _ _ hbb).trans h1, h2⟩
  · by_cases hbb : b' = b
    · subst hbb
      have : (x.push t hw k b' o vs).g.kind b' = .row k (some t) := upd_same _ _ _
      rw [this] at hk'
      cases hk'
    · have e4 : (x.push t hw k b o vs).g.kind b' = x.g.kind b' := upd_ne _ _ hbb
      rw [e4] at hk'
      exact h.hits b' i hk'
  · by_cases hbb : b' = b
    · subst hbb
      have : (x.push t hw k b' o vs).g.kind b' = .row k (some t) := upd_same _ _ _
      rw [this] at hk'
      injection hk' with q1 q2
      injection q2 with q2
      subst q2
      exact ht
    · have e4 : (x.push t hw k b o vs).g.kind b' = x.g.kind b' := upd_ne _ _ hbb
      rw [e4] at hk'
      exact h.toks b' k' t' hk'

theorem X.move_ok {m : Nat → Nat → Prop} {x : X} (h : Rel x) (t hw0 hw k : Nat) (arr : Array Value) (e : TypeId) (ht : t < x.σ.n) (ho : x.σ.obj t = .row hw0) (hlt : hw0 ≤ hw) (hle : k ≤ arr.size) (hm : m t 0) :
    Evol m x (x.move t hw k arr e) ∧ Rel (x.move t hw k arr e) := by
  have hpush : ∀ b, b < x.w.heap.size → (x.w.alloc (.cells arr e)).heap[b]? = x.w.heap[b]? := fun b hb => by rw [heap_push, if_neg (by omega)]
  have he : Evol m x (x.move t hw k arr e) :=
    { n := Nat.le_refl _
      size := by simp [X.move]
      os := rfl
      base := rfl
      tape := rfl
      output := rfl
      objs := fun i hi => by
        by_cases hie : i = t
        · subst hie
          rw [ho]
          exact ⟨hw, upd_same _ _ _, hlt, fun q => absurd hm q⟩
        · have e2 : (x.move t hw k arr e).σ.obj i = x.σ.obj i := upd_ne _ _ hie
          cases hoi : x.σ.obj i with
          | cells cs' => exact ⟨rfl, cs', e2.trans hoi, rfl, fun off _ => ⟨rfl, cell_push (h.objBlk hi (by rw [hoi]; simp))⟩⟩
          | map es => exact ⟨rfl, es, e2.trans hoi, fun _ => ⟨rfl, hpush _ (h.objBlk hi (by rw [hoi]; simp))⟩⟩
          | row q => exact ⟨q, e2.trans hoi, Nat.le_refl _, fun _ => rfl⟩
      blks := fun b hb => by
        have e4 : (x.move t hw k arr e).g.kind b = x.g.kind b := upd_ne _ _ (by omega)
        cases hk : x.g.kind b with
        | free => exact ⟨e4.trans hk, hpush b hb⟩
        | obj i => exact e4.trans hk
        | row n own =>
          obtain ⟨cs, e', fr, h1, _⟩ := h.rows b n own hk
          exact ⟨n, Nat.le_refl _, e4.trans hk, ⟨cs, e', fr, cs, h1, (hpush b hb).trans h1, rfl, fun _ _ => rfl⟩, fun _ _ _ _ _ _ => rfl⟩ }
  refine ⟨he, h.step he (fun i hi => ?_) (grow_lt h _ _) (grow_rows h _ _ (fun n own hn => by cases hn; exact ⟨arr, e, (0, 0), rfl, hle⟩)) (fun b i hb => ?_) (grow_toks h (.cells arr e) _ (fun n t' q => by injection q with q1 q2; injection q2 with q2; subst q2; exact ht))⟩
  · by_cases hie : i = t
    · subst hie
      right
      have : (x.move i hw k arr e).σ.obj i = .row hw := upd_same _ _ _
      rw [this]
      trivial
    · exact .inl ⟨hi, upd_ne _ _ hie, rfl, fun hr => hpush _ (h.objBlk hi hr)⟩
  · by_cases e2 : b = x.w.heap.size
    · subst e2
      have : (x.move t hw k arr e).g.kind x.w.heap.size = .row k (some t) := upd_same _ _ _
      rw [this] at hb
      cases hb
    · have e4 : (x.move t hw k arr e).g.kind b = x.g.kind b := upd_ne _ _ e2
      rw [e4] at hb
      exact h.hits b i hb

theorem X.tok_ok {m : Nat → Nat → Prop} {x : X} (h : Rel x) (hw : Nat) : Evol m x (x.tok hw) ∧ Rel (x.tok hw) := by
  have he : ∀ m, Evol m x (x.tok hw) := fun m =>
    { n := Nat.le_succ _
      size := Nat.le_refl _
      os := rfl
      base := rfl
      tape := rfl
      output := rfl
      objs := fun i hi => by
        have e2 : (x.tok hw).σ.obj i = x.σ.obj i := upd_ne _ _ (by omega)
        cases hoi : x.σ.obj i with
        | cells cs' => exact ⟨rfl, cs', e2.trans hoi, rfl, fun off _ => ⟨rfl, rfl⟩⟩
        | map es => exact ⟨rfl, es, e2.trans hoi, fun _ => ⟨rfl, rfl⟩⟩
        | row q => exact ⟨q, e2.trans hoi, Nat.le_refl _, fun _ => rfl⟩
      blks := fun b hb => by
        cases hk : x.g.kind b with
        | free => exact ⟨hk, rfl⟩
        | obj i => exact hk
        | row n own => exact ⟨n, Nat.le_refl _, hk, RowKept.refl h hk, fun _ _ _ _ _ _ => rfl⟩ }
  refine ⟨he m, h.step (he fun _ _ => False) (fun i hi => ?_) h.lt h.rows (fun b i hb => ?_) (fun b k t hk => Nat.lt_succ_of_lt (h.toks b k t hk))⟩
  · by_cases hie : i = x.σ.n
    · subst hie
      right
      have : (x.tok hw).σ.obj x.σ.n = .row hw := upd_same _ _ _
      rw [this]
      trivial
    · exact .inl ⟨by have : i < x.σ.n + 1 := hi; omega, upd_ne _ _ hie, rfl, fun _ => rfl⟩
  · have := h.hits b i hb
    exact ⟨Nat.lt_succ_of_lt this.1, this.2⟩

/-- A slice's value: its base, its cells. -/
theorem VR.sl_inv {x : X} {o : Own} {sz : Nat} {xs : List A} {v : Value} (h : VR x (.sl o sz xs) v) :
    ∃ (base : Option Addr) (cap : Nat) (olds : List Value), v = .slice base xs.length cap ∧ xs.length ≤ cap ∧ (∀ e ∈ xs, e.cells.length = sz) ∧ olds.length = (flat xs).length ∧ (∀ j c, (flat xs)[j]? = some c → VR x c (olds.getD j undef)) ∧
      ((base = none ∧ xs = [] ∧ cap = 0 ∧ OwnOk x 0 0 0 sz 0 o) ∨
        (∃ b off, base = some ⟨b, off, none⟩ ∧ OwnOk x b off xs.length sz cap o ∧ ∀ j u, olds[j]? = some u → x.w.cell? ⟨b, off + j, none⟩ = some u) ∨ (o = .no ∧ xs = [])) := by
  cases h with
  | sl _ _ _ cs b off cap k own vs hcs hsz hcap hk hc hv ho =>
    subst hcs
    refine ⟨some ⟨b, off, none⟩, cap, (List.range (flat xs).length).map vs, rfl, hcap, hsz, by simp, fun j c hj => ?_, .inr (.inl ⟨b, off, rfl, ho, fun j u hu => ?_⟩)⟩
    · have hlt : j < (flat xs).length := by
        rcases Nat.lt_or_ge j (flat xs).length with q | q
        · exact q
        · rw [List.getElem?_eq_none q] at hj; cases hj
      simpa [List.getD_eq_getElem?_getD, hlt] using hv j c hj
    · have hlt : j < (flat xs).length := by
        rcases Nat.lt_or_ge j (flat xs).length with q | q
        · exact q
        · rw [List.getElem?_eq_none (by simpa using q)] at hu; cases hu
      simp [hlt] at hu
      rw [← hu]
      exact hc j hlt
  | slnil _ _ ho => exact ⟨none, 0, [], rfl, Nat.le_refl _, fun _ h => (by cases h), rfl, fun j c hj => by simp [flat] at hj, .inl ⟨rfl, rfl, rfl, ho⟩⟩
  | slz _ ad cap => exact ⟨ad, cap, [], rfl, Nat.zero_le _, fun _ h => (by cases h), rfl, fun j c hj => by simp [flat] at hj, .inr (.inr ⟨rfl, rfl⟩)⟩

theorem flat_append (xs ys : List A) : flat (xs ++ ys) = flat xs ++ flat ys := by simp [flat]
theorem flat_length {sz : Nat} : ∀ {xs : List A}, (∀ e ∈ xs, e.cells.length = sz) → (flat xs).length = xs.length * sz
  | [], _ => by simp [flat]
  | a :: r, h => by
    have h1 := h a (by simp)
    have h2 := flat_length (sz := sz) (xs := r) (fun e he => h e (by simp [he]))
    simp only [flat, List.flatMap_cons, List.length_append, List.length_cons] at *
    rw [h1, h2, Nat.add_mul, Nat.one_mul, Nat.add_comm]

theorem olds_firstCells {P : Program} {w : World} {b off : Nat} (size n c : Nat) (olds : List Value) (hl : olds.length = n * size) (h : ∀ j u, olds[j]? = some u → w.cell? ⟨b, off + j, none⟩ = some u) :
    (Builtin.firstCells size n (.slice (some ⟨b, off, none⟩) n c)).run P w = .ok olds.toArray w :=
  run_firstCells_some w size n ⟨b, off, none⟩ n c olds hl (fun j u hu => by
    have := h j u hu
    have e : (⟨b, off, none⟩ : Addr).add j = ⟨b, off + j, none⟩ := by unfold Addr.add; split <;> simp_all
    rw [e]; exact this)

/-- What a source hands over: the cells of some elements. -/
structure SrcOk (P : Program) (size : Nat) (tx : TypeId) (x : X) (u : Value) (ys : List A) (news : List Value) : Prop where
  src : Src P size tx u ys.length news x.w
  sz : ∀ e ∈ ys, e.cells.length = size
  vr : ∀ j c, (flat ys)[j]? = some c → VR x c (news.getD j undef)

theorem getD_append_left {α : Type} {a b : List α} {j : Nat} {d : α} (h : j < a.length) : (a ++ b).getD j d = a.getD j d := by
  simp [List.getD_eq_getElem?_getD, List.getElem?_append_left h]
theorem getD_append_right {α : Type} {a b : List α} {j : Nat} {d : α} (h : a.length ≤ j) : (a ++ b).getD j d = b.getD (j - a.length) d := by
  simp [List.getD_eq_getElem?_getD, List.getElem?_append_right h]

theorem vr_append {x : X} {xs ys : List A} {olds news : List Value} (hl : olds.length = (flat xs).length) (h1 : ∀ j c, (flat xs)[j]? = some c → VR x c (olds.getD j undef)) (h2 : ∀ j c, (flat ys)[j]? = some c → VR x c (news.getD j undef)) :
    ∀ j c, (flat (xs ++ ys))[j]? = some c → VR x c ((olds ++ news).getD j undef) := fun j c hj => by
  rw [flat_append] at hj
  by_cases hlt : j < (flat xs).length
  · rw [List.getElem?_append_left hlt] at hj
    rw [getD_append_left (by omega)]
    exact h1 j c hj
  · rw [List.getElem?_append_right (by omega)] at hj
    rw [getD_append_right (by omega), hl]
    exact h2 _ c hj

/-- The value of a row that has just been laid. -/
theorem vr_row {y : X} {o : Own} {sz : Nat} {zs : List A} {b k cap : Nat} {own : Option Nat} {arr : Array Value} {e : TypeId} {fr : Nat × Nat} (all : List Value) (hk : y.g.kind b = .row k own) (hw : y.w.heap[b]? = some (.cells arr e fr))
    (hkk : (flat zs).length ≤ k) (hsz : ∀ e ∈ zs, e.cells.length = sz) (hcap : zs.length ≤ cap) (hl : all.length = (flat zs).length) (ha : ∀ j, j < all.length → arr[j]? = all[j]?)
    (hv : ∀ j c, (flat zs)[j]? = some c → VR y c (all.getD j undef)) (ho : OwnOk y b 0 zs.length sz cap o) : VR y (.sl o sz zs) (.slice (some ⟨b, 0, none⟩) zs.length cap) := by
  refine .sl o sz zs (flat zs) b 0 cap k own (fun j => all.getD j undef) rfl hsz hcap (fun _ => ⟨hk, by omega⟩) (fun j hj => ?_) hv ho
  rw [cell_of hw, Nat.zero_add, ha j (by omega), List.getElem?_eq_getElem (by omega)]
  simp [List.getD_eq_getElem?_getD, show j < all.length by omega]

theorem vr_len {y : X} {a : A} {base : Option Addr} {n n' cap : Nat} (h : n = n') (hv : VR y a (.slice base n cap)) : VR y a (.slice base n' cap) := h ▸ hv

/-- May n elements be appended behind? -/
def AppOk (m : Nat → Nat → Prop) (x : X) (n : Nat) : Own → Prop
  | .no => False
  | .full => True
  | .tok k => m k 0 ∧ x.σ.obj k = .row n
/-- What comes of it. -/
def AppRes (x y : X) (sz : Nat) (zs : List A) (v : Value) : Own → Prop
  | .no => False
  | .full => y.σ = x.σ.new (.row zs.length) ∧ VR y (.sl (.tok x.σ.n) sz zs) v
  | .tok k => y.σ = x.σ.set k (.row zs.length) ∧ VR y (.sl (.tok k) sz zs) v

/-- APPEND. -/
theorem append_run {P : Program} {m : Nat → Nat → Prop} (t tx ty e : TypeId) (i : TypeInfo) (z : Value) (ht : P.underlying t = some (.slice e)) (hi : P.info? e = some i) (hz : i.zero = some z) (hzs : z.cells.size = i.size) {x : X} (hx : Rel x)
    {o : Own} {xs ys : List A} {v u : Value} {news : List Value} (hv : VR x (.sl o i.size xs) v) (hs : SrcOk P i.size tx x u ys news)
    (hb : 2 * (xs.length + ys.length) * i.bytes ≤ 281474976710656) (hb2 : xs.length + ys.length ≤ 140737488355328)
    (ho : AppOk m x xs.length o) (hne : o = .full → ys = [] → xs = []) :
    ∃ v' y, (Builtin.append_ #[t, tx] ty #[v, u]).run P x.w = .ok v' y.w ∧ Evol m x y ∧ Rel y ∧ AppRes x y i.size (xs ++ ys) v' o := by
  obtain ⟨base, cap, olds, rfl, hcap, hsz, hol, hov, hbase⟩ := hv.sl_inv
  have hbase : (base = none ∧ xs = [] ∧ cap = 0 ∧ OwnOk x 0 0 0 i.size 0 o) ∨ ∃ b off, base = some ⟨b, off, none⟩ ∧ OwnOk x b off xs.length i.size cap o ∧ ∀ j u, olds[j]? = some u → x.w.cell? ⟨b, off + j, none⟩ = some u := by
    rcases hbase with h | h | ⟨rfl, _⟩
    · exact .inl h
    · exact .inr h
    · exact ho.elim
  have hlen : (xs ++ ys).length = xs.length + ys.length := List.length_append
  have hszA : ∀ e ∈ xs ++ ys, e.cells.length = i.size := fun e he => by
    rcases List.mem_append.1 he with q | q
    · exact hsz e q
    · exact hs.sz e q
  have hnl : news.length = (flat ys).length := by rw [hs.src.newsLen, flat_length hs.sz]
  have hall := vr_append hol hov hs.vr
  have hallen : (olds ++ news).length = (flat (xs ++ ys)).length := by rw [List.length_append, flat_append, List.length_append, hol, hnl]
  by_cases hroom : xs.length + ys.length ≤ cap
  · -- there is room
    have hempty : ys = [] → news = [] := fun q => by subst q; exact List.eq_nil_of_length_eq_zero (by rw [hnl]; simp [flat])
    by_cases hys : ys = []
    · -- nothing is appended
      subst hys
      have hn := hempty rfl
      subst hn
      have hrun : (Builtin.append_ #[t, tx] ty #[.slice base xs.length cap, u]).run P x.w = .ok (.slice base xs.length cap) x.w := by
        rcases hbase with ⟨rfl, rfl, rfl, _⟩ | ⟨b, off, rfl, _, _⟩
        · have h1 := hs.src.len x.w
          have h2 := hs.src.cells
          simp only [List.length_nil] at h1 h2
          rcases hs.src.kind with ⟨e', hk⟩ | hk <;> simp [Builtin.append_, run_underlying ht, run_underlying hk, sizeOf, typeInfo, hi, h1, h2]
        · have := run_append_room_src (P := P) x.w t tx ty e i ht hi b off xs.length cap u 0 [] hs.src (by simpa using hroom) (by simp) (by simp)
          simpa [World.setCells] using this
      cases o with
      | no => exact ho.elim
      | full =>
        obtain ⟨he, hr⟩ := X.tok_ok (m := m) hx xs.length
        refine ⟨_, x.tok xs.length, hrun, he, hr, by simp [X.tok], ?_⟩
        rw [List.append_nil]
        have hown : ∀ b off, OwnOk (x.tok xs.length) b off xs.length i.size cap (.tok x.σ.n) := fun b off => by
          have hc : cap = xs.length := by
            rcases hbase with ⟨_, rfl, rfl, _⟩ | ⟨_, _, _, q, _⟩
            · rfl
            · exact q
          exact ⟨Nat.lt_succ_self _, fun q => by rw [hne rfl rfl] at q; simp at q, xs.length, upd_same _ _ _, Nat.le_refl _, fun _ => .inl hc⟩
        have hv' := hv.evol he hx
        cases hv' with
        | sl _ _ _ cs b off cap k own vs hcs hsz hcap hk hc hvv ho' => exact .sl _ _ _ cs b off cap k own vs hcs hsz hcap hk hc hvv (hown b off)
        | slnil _ _ ho' => exact .slnil _ _ (hown 0 0)
      | tok k =>
        obtain ⟨hm, hk⟩ := ho
        have hxk : x.σ.set k (.row xs.length) = x.σ := by
          cases hσ : x.σ with
          | mk n obj =>
            rw [hσ] at hk
            simp only [St.set, St.mk.injEq, true_and, and_true]
            funext j
            by_cases hj : j = k
            · subst hj; rw [upd_same]; exact hk.symm
            · rw [upd_ne _ _ hj]
        refine ⟨_, x, hrun, Evol.refl hx, hx, by simp [hxk], ?_⟩
        rw [List.append_nil]
        exact hv
    · -- something is
      have hys1 : 0 < ys.length := by
        cases ys with
        | nil => exact absurd rfl hys
        | cons => simp
      rcases hbase with ⟨rfl, rfl, rfl, _⟩ | ⟨b, off, rfl, hown, hcells⟩
      · exact absurd hroom (by simp; omega)
      cases o with
      | no => exact ho.elim
      | full => exact absurd hroom (by have : cap = xs.length := hown; omega)
      | tok k =>
        obtain ⟨hm, hk⟩ := ho
        obtain ⟨hkn, hC, hw, hk', hle', htip⟩ := hown
        rw [hk] at hk'
        injection hk' with hk'
        subst hk'
        rcases htip rfl with hc | ⟨hoff, hkind, arr, et, harr, hasz⟩
        · exact absurd hroom (by omega)
        have hfl := flat_length hsz
        have hroom' : off + xs.length * i.size + news.length ≤ arr.size := by
          have h1 : (xs.length + ys.length) * i.size ≤ cap * i.size := Nat.mul_le_mul_right _ hroom
          rw [Nat.add_mul] at h1
          have := hs.src.newsLen
          omega
        have hrun := run_append_room_src (P := P) x.w t tx ty e i ht hi b off xs.length cap u ys.length news hs.src hroom
          (fun j hj => by rw [cell_of harr, Array.getElem?_eq_getElem (by omega)]; rfl) (fun j hj => by simp [World.frozen?, harr])
        obtain ⟨he, hr⟩ := X.push_ok (m := m) hx k xs.length (xs.length + ys.length) (off + xs.length * i.size + news.length) b (off + xs.length * i.size) news arr et hkn hk (by omega) hkind harr hroom' rfl hm
        refine ⟨_, x.push k (xs.length + ys.length) (off + xs.length * i.size + news.length) b (off + xs.length * i.size) news, hrun, he, hr, by rw [hlen]; rfl, ?_⟩
        have harr' := heap_setCells b news (off + xs.length * i.size) x.w arr et (0, 0) harr
        have hall' : ∀ j c, (flat (xs ++ ys))[j]? = some c → VR (x.push k (xs.length + ys.length) (off + xs.length * i.size + news.length) b (off + xs.length * i.size) news) c ((olds ++ news).getD j undef) :=
          fun j c hj => (hall j c hj).evol he hx
        refine vr_len hlen (.sl _ _ _ (flat (xs ++ ys)) b off cap (off + xs.length * i.size + news.length) (some k) (fun j => (olds ++ news).getD j undef) rfl hszA (by omega) (fun _ => ⟨upd_same _ _ _, by rw [← hallen, List.length_append]; omega⟩) (fun j hj => ?_) hall' ?_)
        · rw [← hallen, List.length_append] at hj
          show (x.w.setCells b (off + xs.length * i.size) news).cell? _ = _
          rw [cell_of harr']
          by_cases hlt : j < olds.length
          · rw [setArr_out _ _ _ _ (by omega), ← cell_of harr, hcells j (olds.getD j undef) (by simp [List.getD_eq_getElem?_getD, hlt]), getD_append_left hlt]
          · obtain ⟨q, rfl⟩ : ∃ q, j = olds.length + q := ⟨j - olds.length, by omega⟩
            rw [show off + (olds.length + q) = off + xs.length * i.size + q by omega, setArr_in _ _ _ _ (by omega) hroom', getD_append_right (by omega), Nat.add_sub_cancel_left, List.getElem?_eq_getElem (by omega)]
            simp [List.getD_eq_getElem?_getD, show q < news.length by omega]
        · refine ⟨hkn, fun _ => ⟨hoff, _, _, et, upd_same _ _ _, harr'⟩, xs.length + ys.length, upd_same _ _ _, by omega, fun _ => .inr ⟨hoff, ?_, _, et, harr', by rw [setArr_size]; exact hasz⟩⟩
          show upd x.g.kind b _ b = _
          rw [upd_same, hlen, Nat.add_mul]
          have := hs.src.newsLen
          congr 1
          omega
  · -- a new row
    have hfit : Builtin.nextslicecap (xs.length + ys.length) cap * i.bytes ≤ 281474976710656 :=
      Nat.le_trans (Nat.mul_le_mul_right _ (nextslicecap_le (by omega))) hb
    have hold : (Builtin.firstCells i.size xs.length (.slice base xs.length cap)).run P x.w.drew = .ok olds.toArray x.w.drew := by
      rcases hbase with ⟨rfl, rfl, rfl, _⟩ | ⟨b, off, rfl, hown, hcells⟩
      · have : olds = [] := List.eq_nil_of_length_eq_zero (by rw [hol]; simp [flat])
        subst this
        exact run_firstCells_none x.w.drew i.size 0 0 0
      · exact olds_firstCells i.size xs.length cap olds (by rw [hol, flat_length hsz]) (fun j u hu => hcells j u hu)
    have hrun := run_append_grow_src (P := P) x.w t tx ty e i z ht hi hz base xs.length cap olds hold u ys.length news hs.src (by omega) (by omega) hfit
    generalize hg : grownCap x.w (xs.length + ys.length) cap e = gc at hrun
    have hgc : xs.length + ys.length ≤ gc := by rw [← hg]; unfold grownCap; exact Nat.le_add_right _ _
    have hzc : (Builtin.zeroCells z.cells (gc - (xs.length + ys.length))).size = (gc - (xs.length + ys.length)) * i.size := by simp [Builtin.zeroCells, hzs]
    generalize Builtin.zeroCells z.cells (gc - (xs.length + ys.length)) = zc at hrun hzc
    have hfl : (flat (xs ++ ys)).length = (xs.length + ys.length) * i.size := by rw [flat_length hszA, hlen]
    have hsub : ∀ j, j < (olds ++ news).length → ((olds ++ news).toArray ++ zc)[j]? = (olds ++ news)[j]? := fun j hj => by
      rw [Array.getElem?_append_left (by simpa using hj)]
      simp
    have hasz : ((olds ++ news).toArray ++ zc).size = gc * i.size := by
      rw [Array.size_append, hzc, List.size_toArray, hallen, hfl, ← Nat.add_mul]
      congr 1
      omega
    generalize (olds ++ news).toArray ++ zc = arr at hrun hsub hasz
    have hkk : (flat (xs ++ ys)).length ≤ arr.size := by rw [hasz, hfl]; exact Nat.mul_le_mul_right _ hgc
    obtain ⟨hd1, hd2⟩ := X.drew_ok (m := m) hx
    have hnew : ∀ k, (x.drew.w.alloc (.cells arr e)).heap[x.w.heap.size]? = some (.cells arr e (0, 0)) ∧ (k : Nat) = k := fun k => ⟨by rw [heap_push]; exact if_pos rfl, rfl⟩
    cases o with
    | no => exact ho.elim
    | full =>
      have he2 : Evol m x.drew (x.drew.growObj (.cells arr e) (.row (xs.length + ys.length)) (.row (flat (xs ++ ys)).length (some x.σ.n))) := X.growObj_evol hd2 _ _ _
      have hr2 : Rel (x.drew.growObj (.cells arr e) (.row (xs.length + ys.length)) (.row (flat (xs ++ ys)).length (some x.σ.n))) :=
        X.growObj_rel hd2 _ _ _ (fun n own hn => by cases hn; exact ⟨arr, e, (0, 0), rfl, hkk⟩) (fun id hid => by cases hid) trivial (fun n t q => by injection q with q1 q2; injection q2 with q2; subst q2; exact Nat.lt_succ_self _)
      have he := hd1.trans he2 (fun _ _ _ h => h) (fun _ _ _ h => h)
      refine ⟨_, _, hrun, he, hr2, by rw [hlen]; rfl, ?_⟩
      refine vr_len hlen (vr_row (olds ++ news) (upd_same _ _ _) (hnew 0).1 (Nat.le_refl _) hszA (by omega) hallen hsub (fun j c hj => (hall j c hj).evol he hx) ?_)
      refine ⟨Nat.lt_succ_self _, fun _ => ⟨rfl, _, arr, e, upd_same _ _ _, (hnew 0).1⟩, xs.length + ys.length, upd_same _ _ _, by omega, fun _ => .inr ⟨rfl, ?_, arr, e, (hnew 0).1, by omega⟩⟩
      rw [hlen, Nat.zero_add, ← hfl]
      exact upd_same _ _ _
    | tok k =>
      obtain ⟨hm, hk⟩ := ho
      have hkn : k < x.σ.n := by
        rcases hbase with ⟨_, _, _, q⟩ | ⟨_, _, _, q, _⟩
        · exact q.1
        · exact q.1
      obtain ⟨he2, hr2⟩ := X.move_ok (m := m) hd2 k xs.length (xs.length + ys.length) (flat (xs ++ ys)).length arr e hkn hk (by omega) hkk hm
      have he := hd1.trans he2 (fun _ _ _ h => h) (fun _ _ _ h => h)
      refine ⟨_, _, hrun, he, hr2, by rw [hlen]; rfl, ?_⟩
      refine vr_len hlen (vr_row (olds ++ news) (upd_same _ _ _) (hnew 0).1 (Nat.le_refl _) hszA (by omega) hallen hsub (fun j c hj => (hall j c hj).evol he hx) ?_)
      refine ⟨hkn, fun _ => ⟨rfl, _, arr, e, upd_same _ _ _, (hnew 0).1⟩, xs.length + ys.length, upd_same _ _ _, by omega, fun _ => .inr ⟨rfl, ?_, arr, e, (hnew 0).1, by omega⟩⟩
      rw [hlen, Nat.zero_add, ← hfl]
      exact upd_same _ _ _

end Go.Proofs.YtkpijfgananjjaaDoor.Ga
