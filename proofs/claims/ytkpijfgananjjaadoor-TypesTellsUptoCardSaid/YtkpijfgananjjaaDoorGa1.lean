/- The steps of the abstract states: a new object, a new row, a store, an append: each keeps the relation. -/
import Derived.Test.YtkpijfgananjjaaDoorGa0
import Derived.Laws.IdiomCopy
set_option linter.unusedVariables false
set_option linter.unusedSimpArgs false
namespace Go.Proofs.YtkpijfgananjjaaDoor.Ga

def upd {α : Type} (f : Nat → α) (i : Nat) (v : α) : Nat → α := fun j => if j = i then v else f j
theorem upd_same {α : Type} (f : Nat → α) (i : Nat) (v : α) : upd f i v i = v := by simp [upd]
theorem upd_ne {α : Type} (f : Nat → α) {i j : Nat} (v : α) (h : j ≠ i) : upd f i v j = f j := by simp [upd, h]

def St.new (σ : St) (o : AO) : St := { n := σ.n + 1, obj := upd σ.obj σ.n o, base := σ.base }
def St.set (σ : St) (id : Nat) (o : AO) : St := { n := σ.n, obj := upd σ.obj id o, base := σ.base }

theorem pinned_step {x y : X} {b : Nat} {o : Obj} (h1 : Pinned x b o) (h2 : x.w.heap[b]? = some o) (a : BlkKept x y b (x.g.kind b))
    (hrows : ∀ k own, y.g.kind b = .row k own → ∃ cs e fr, y.w.heap[b]? = some (.cells cs e fr) ∧ k ≤ cs.size) : Pinned y b o ∧ y.w.heap[b]? = some o := by
  rcases h1 with h1 | ⟨cs, e, fr, rfl, h1⟩
  · rw [h1] at a
    exact ⟨.inl a.1, a.2.trans h2⟩
  · rw [h1] at a
    obtain ⟨k', a1, a2, ⟨cs0, e0, fr0, cs1, q1, q2, q3, q4⟩, _⟩ := a
    rw [h2] at q1
    injection q1 with q1
    injection q1 with r1 r2 r3
    subst r1 r2 r3
    obtain ⟨cs2, e2, fr2, s1, s2⟩ := hrows k' none a2
    rw [q2] at s1
    injection s1 with s1
    injection s1 with t1 t2 t3
    subst t1 t2 t3
    obtain rfl : k' = cs.size := by omega
    have : cs1 = cs := by
      apply Array.ext_getElem?
      intro j
      by_cases hj : j < cs.size
      · exact q4 j hj
      · rw [Array.getElem?_eq_none (by omega), Array.getElem?_eq_none (by omega)]
    subst this
    exact ⟨.inr ⟨_, _, _, rfl, a2⟩, q2⟩

theorem Rel.step {m : Nat → Nat → Prop} {x y : X} (hx : Rel x) (he : Evol m x y)
    (hobj : ∀ id, id < y.σ.n → (id < x.σ.n ∧ y.σ.obj id = x.σ.obj id ∧ y.g.blk id = x.g.blk id ∧ ((∀ hw, x.σ.obj id ≠ .row hw) → y.w.heap[x.g.blk id]? = x.w.heap[x.g.blk id]?)) ∨ ObjRel y id (y.σ.obj id))
    (hlt : ∀ b, y.w.heap.size ≤ b → y.g.kind b = .free)
    (hrows : ∀ b k o, y.g.kind b = .row k o → ∃ cs e fr, y.w.heap[b]? = some (.cells cs e fr) ∧ k ≤ cs.size)
    (hhits : ∀ b id, y.g.kind b = .obj id → id < y.σ.n ∧ y.g.blk id = b)
    (htoks : ∀ b k t, y.g.kind b = .row k (some t) → t < y.σ.n) : Rel y where
  toks := htoks
  lt := hlt
  rows := hrows
  hits := hhits
  pins := fun b o hb => by
    rw [he.base] at hb
    obtain ⟨h1, h2⟩ := hx.pins b o hb
    have hlt : b < x.w.heap.size := by
      rcases Nat.lt_or_ge b x.w.heap.size with q | q
      · exact q
      · rw [Array.getElem?_eq_none q] at h2; cases h2
    have a := he.blks b hlt
    exact pinned_step h1 h2 a (hrows b)
  objs := fun id hid => by
    rcases hobj id hid with ⟨h1, h2, h3, h4⟩ | h
    · have a := hx.objs id h1
      rw [h2]
      cases ho : x.σ.obj id with
      | cells cs =>
        rw [ho] at a
        obtain ⟨a1, arr, e, a2, a3, a4⟩ := a
        have hb := he.blks _ (hx.blk_lt (b := x.g.blk id) (by rw [a1]; simp))
        rw [a1] at hb
        refine ⟨by rw [h3]; exact hb, arr, e, by rw [h3, h4 (fun _ => by rw [ho]; simp)]; exact a2, a3, fun j c hj => (a4 j c hj).evol he hx⟩
      | map es =>
        rw [ho] at a
        obtain ⟨a1, ents, clock, a2, a3, a4⟩ := a
        have hb := he.blks _ (hx.blk_lt (b := x.g.blk id) (by rw [a1]; simp))
        rw [a1] at hb
        refine ⟨by rw [h3]; exact hb, ents, clock, by rw [h3, h4 (fun _ => by rw [ho]; simp)]; exact a2, a3, fun j k v hj => ⟨(a4 j k v hj).1.evol he hx, (a4 j k v hj).2.evol he hx⟩⟩
      | row hw =>
        rw [ho] at a
        trivial
    · exact h

theorem arr_getD {a b : Array Value} {i j : Nat} (h : a[i]? = b[j]?) : a.getD i undef = b.getD j undef := by
  rw [Array.getD_eq_getD_getElem?, Array.getD_eq_getD_getElem?, h]
theorem arr_getD_list {a : Array Value} {b : List Value} {i j : Nat} (h : a[i]? = b[j]?) : a.getD i undef = b.getD j undef := by
  rw [Array.getD_eq_getD_getElem?, List.getD_eq_getElem?_getD, h]

theorem heap_push (w : World) (o : Obj) (b : Nat) : (w.alloc o).heap[b]? = if b = w.heap.size then some o else w.heap[b]? := by
  show (w.heap.push o)[b]? = _
  rw [Array.getElem?_push]
  

theorem Rel.objBlk {x : X} (h : Rel x) {id : Nat} (hid : id < x.σ.n) (hr : ∀ hw, x.σ.obj id ≠ .row hw) : x.g.blk id < x.w.heap.size := by
  have a := h.objs id hid
  cases ho : x.σ.obj id with
  | cells cs => rw [ho] at a; exact h.blk_lt (by rw [a.1]; simp)
  | map es => rw [ho] at a; exact h.blk_lt (by rw [a.1]; simp)
  | row hw => exact absurd ho (hr hw)

/-- The world with one block more, what it is told by 'k'; perhaps one object more. -/
def X.grow (x : X) (o : Obj) (k : BK) : X := ⟨x.σ, ⟨x.g.blk, upd x.g.kind x.w.heap.size k⟩, x.w.alloc o⟩
def X.growObj (x : X) (o : Obj) (ao : AO) (k : BK) : X := ⟨x.σ.new ao, ⟨upd x.g.blk x.σ.n x.w.heap.size, upd x.g.kind x.w.heap.size k⟩, x.w.alloc o⟩

theorem cell_push {w : World} {o : Obj} {a : Addr} (h : a.block < w.heap.size) : (w.alloc o).cell? a = w.cell? a := World.cell?_of_block (by rw [heap_push, if_neg (by omega)])

theorem X.growObj_evol {m : Nat → Nat → Prop} {x : X} (h : Rel x) (o : Obj) (ao : AO) (k : BK) : Evol m x (x.growObj o ao k) where
  n := Nat.le_succ _
  size := by simp [X.growObj]
  os := rfl
  base := rfl
  tape := rfl
  output := rfl
  objs := fun id hid => by
    have hne : id ≠ x.σ.n := by omega
    have e1 : (x.growObj o ao k).σ.obj id = x.σ.obj id := upd_ne _ _ hne
    have e2 : (x.growObj o ao k).g.blk id = x.g.blk id := upd_ne _ _ hne
    have e3 : x.g.blk id < x.w.heap.size → (x.growObj o ao k).w.heap[x.g.blk id]? = x.w.heap[x.g.blk id]? := fun hb => by
      show (x.w.alloc o).heap[x.g.blk id]? = _
      rw [heap_push, if_neg (by omega)]
    cases ho : x.σ.obj id with
    | cells cs => exact ⟨e2, cs, e1.trans ho, rfl, fun off _ => ⟨rfl, cell_push (h.objBlk hid (by rw [ho]; simp))⟩⟩
    | map es => exact ⟨e2, es, e1.trans ho, fun _ => ⟨rfl, e3 (h.objBlk hid (by rw [ho]; simp))⟩⟩
    | row hw => exact ⟨hw, e1.trans ho, Nat.le_refl _, fun _ => rfl⟩
  blks := fun b hb => by
    have e3 : (x.growObj o ao k).w.heap[b]? = x.w.heap[b]? := by
      show (x.w.alloc o).heap[b]? = _
      rw [heap_push, if_neg (by omega)]
    have e4 : (x.growObj o ao k).g.kind b = x.g.kind b := upd_ne _ _ (by omega)
    cases hk : x.g.kind b with
    | free => exact ⟨e4.trans hk, e3⟩
    | obj id => exact e4.trans hk
    | row n own =>
      obtain ⟨cs, e, fr, h1, _⟩ := h.rows b n own hk
      exact ⟨n, Nat.le_refl _, e4.trans hk, ⟨cs, e, fr, cs, h1, e3.trans h1, rfl, fun _ _ => rfl⟩, fun _ _ _ _ _ _ => rfl⟩

theorem X.grow_evol {m : Nat → Nat → Prop} {x : X} (h : Rel x) (o : Obj) (k : BK) : Evol m x (x.grow o k) where
  n := Nat.le_refl _
  size := by simp [X.grow]
  os := rfl
  base := rfl
  tape := rfl
  output := rfl
  objs := fun id hid => by
    have e3 : x.g.blk id < x.w.heap.size → (x.grow o k).w.heap[x.g.blk id]? = x.w.heap[x.g.blk id]? := fun hb => by
      show (x.w.alloc o).heap[x.g.blk id]? = _
      rw [heap_push, if_neg (by omega)]
    cases ho : x.σ.obj id with
    | cells cs => exact ⟨rfl, cs, ho, rfl, fun off _ => ⟨rfl, cell_push (h.objBlk hid (by rw [ho]; simp))⟩⟩
    | map es => exact ⟨rfl, es, ho, fun _ => ⟨rfl, e3 (h.objBlk hid (by rw [ho]; simp))⟩⟩
    | row hw => exact ⟨hw, ho, Nat.le_refl _, fun _ => rfl⟩
  blks := fun b hb => by
    have e3 : (x.grow o k).w.heap[b]? = x.w.heap[b]? := by
      show (x.w.alloc o).heap[b]? = _
      rw [heap_push, if_neg (by omega)]
    have e4 : (x.grow o k).g.kind b = x.g.kind b := upd_ne _ _ (by omega)
    cases hk : x.g.kind b with
    | free => exact ⟨e4.trans hk, e3⟩
    | obj id => exact e4.trans hk
    | row n own =>
      obtain ⟨cs, e, fr, h1, _⟩ := h.rows b n own hk
      exact ⟨n, Nat.le_refl _, e4.trans hk, ⟨cs, e, fr, cs, h1, e3.trans h1, rfl, fun _ _ => rfl⟩, fun _ _ _ _ _ _ => rfl⟩

theorem grow_lt {x : X} (h : Rel x) (o : Obj) (k : BK) : ∀ b, (x.w.alloc o).heap.size ≤ b → upd x.g.kind x.w.heap.size k b = .free := fun b hb => by
  simp only [World.size_alloc] at hb
  rw [upd_ne _ _ (by omega)]
  exact h.lt b (by omega)

theorem grow_rows {x : X} (h : Rel x) (o : Obj) (k : BK) (hk : ∀ n own, k = .row n own → ∃ cs e fr, o = .cells cs e fr ∧ n ≤ cs.size) :
    ∀ b n own, upd x.g.kind x.w.heap.size k b = .row n own → ∃ cs e fr, (x.w.alloc o).heap[b]? = some (.cells cs e fr) ∧ n ≤ cs.size := fun b n own hb => by
  by_cases e : b = x.w.heap.size
  · subst e
    rw [upd_same] at hb
    obtain ⟨cs, e, fr, h1, h2⟩ := hk n own hb
    exact ⟨cs, e, fr, by rw [heap_push, if_pos rfl, h1], h2⟩
  · rw [upd_ne _ _ e] at hb
    obtain ⟨cs, e1, fr, h1, h2⟩ := h.rows b n own hb
    exact ⟨cs, e1, fr, by rw [heap_push, if_neg e, h1], h2⟩

theorem grow_toks {x : X} (h : Rel x) (o : Obj) (k : BK) {N : Nat} (hto : ∀ n t, k = .row n (some t) → t < N) (hN : x.σ.n ≤ N := by exact Nat.le_refl _) : ∀ b n t, upd x.g.kind x.w.heap.size k b = .row n (some t) → t < N := fun b n t hb => by
  by_cases e : b = x.w.heap.size
  · subst e
    rw [upd_same] at hb
    exact hto n t hb
  · rw [upd_ne _ _ e] at hb
    exact Nat.lt_of_lt_of_le (h.toks b n t hb) hN

theorem X.grow_rel {x : X} (h : Rel x) (o : Obj) (k : BK) (hk : ∀ n own, k = .row n own → ∃ cs e fr, o = .cells cs e fr ∧ n ≤ cs.size) (hno : ∀ id, k ≠ .obj id) (hto : ∀ n t, k = .row n (some t) → t < x.σ.n := by intro n t q; cases q) : Rel (x.grow o k) := by
  refine h.step (X.grow_evol (m := fun _ _ => False) h o k) (fun id hid => .inl ⟨hid, rfl, rfl, fun hr => ?_⟩) (grow_lt h o k) (grow_rows h o k hk) (fun b id hb => ?_) (grow_toks h o k hto)
  · have hb := h.objBlk hid hr
    show (x.w.alloc o).heap[x.g.blk id]? = _
    rw [heap_push, if_neg (by omega)]
  · by_cases e : b = x.w.heap.size
    · have : k = .obj id := by rw [← hb, e]; exact (upd_same _ _ _).symm
      exact absurd this (hno id)
    · have hb' : x.g.kind b = .obj id := by rw [← hb]; exact (upd_ne _ _ e).symm
      exact h.hits b id hb'

theorem X.growObj_rel {x : X} (h : Rel x) (o : Obj) (ao : AO) (k : BK) (hk : ∀ n own, k = .row n own → ∃ cs e fr, o = .cells cs e fr ∧ n ≤ cs.size) (hid : ∀ id, k = .obj id → id = x.σ.n)
    (ho : ObjRel (x.growObj o ao k) x.σ.n ao) (hto : ∀ n t, k = .row n (some t) → t < x.σ.n + 1 := by intro n t q; cases q) : Rel (x.growObj o ao k) := by
  refine h.step (X.growObj_evol (m := fun _ _ => False) h o ao k) (fun id hd => ?_) (grow_lt h o k) (grow_rows h o k hk) (fun b id hb => ?_) (grow_toks h o k hto (Nat.le_succ _))
  · by_cases e : id = x.σ.n
    · subst e
      right
      have : (x.growObj o ao k).σ.obj x.σ.n = ao := upd_same _ _ _
      rw [this]
      exact ho
    · left
      have hlt : id < x.σ.n := by have : id < x.σ.n + 1 := hd; omega
      refine ⟨hlt, upd_ne _ _ e, upd_ne _ _ e, fun hr => ?_⟩
      have hb := h.objBlk hlt hr
      show (x.w.alloc o).heap[x.g.blk id]? = _
      rw [heap_push, if_neg (by omega)]
  · by_cases e : b = x.w.heap.size
    · have hk' : k = .obj id := by rw [← hb, e]; exact (upd_same _ _ _).symm
      have := hid id hk'
      subst this
      exact ⟨Nat.lt_succ_self _, by rw [e]; exact upd_same _ _ _⟩
    · have hb' : x.g.kind b = .obj id := by rw [← hb]; exact (upd_ne _ _ e).symm
      obtain ⟨h1, h2⟩ := h.hits b id hb'
      exact ⟨Nat.lt_succ_of_lt h1, by rw [← h2]; exact upd_ne _ _ (by omega)⟩

/-! ### A new variable -/
def X.box (x : X) (arr : Array Value) (e : TypeId) (cs : List A) : X := x.growObj (.cells arr e) (.cells cs) (.obj x.σ.n)

theorem X.box_ok {m : Nat → Nat → Prop} {x : X} (h : Rel x) (arr : Array Value) (e : TypeId) (cs : List A) (hl : arr.size = cs.length) (hv : ∀ j c, cs[j]? = some c → VR x c (arr.getD j undef)) :
    Evol m x (x.box arr e cs) ∧ Rel (x.box arr e cs) ∧ VR (x.box arr e cs) (.ptr x.σ.n 0) (.pointer (some ⟨x.w.heap.size, 0, none⟩)) := by
  have he : Evol m x (x.box arr e cs) := X.growObj_evol h _ _ _
  have hblk : (x.box arr e cs).g.blk x.σ.n = x.w.heap.size := upd_same _ _ _
  refine ⟨he, X.growObj_rel h _ _ _ (fun n own hn => by cases hn) (fun id hid => by cases hid; rfl) ?_, ?_⟩
  · refine ⟨?_, arr, e, ?_, Nat.le_of_eq hl.symm, fun j c hj => (hv j c hj).evol he h⟩
    · rw [show (x.growObj (.cells arr e) (.cells cs) (.obj x.σ.n)).g.blk x.σ.n = x.w.heap.size from hblk]
      exact upd_same _ _ _
    · rw [show (x.growObj (.cells arr e) (.cells cs) (.obj x.σ.n)).g.blk x.σ.n = x.w.heap.size from hblk]
      show (x.w.alloc _).heap[x.w.heap.size]? = _
      rw [heap_push, if_pos rfl]
  · rw [← hblk]
    exact .ptr x.σ.n 0 cs (Nat.lt_succ_self _) (upd_same _ _ _)

/-! ### A new row -/
def X.row (x : X) (arr : Array Value) (e : TypeId) (k : Nat) : X := x.grow (.cells arr e) (.row k none)

theorem X.row_ok {m : Nat → Nat → Prop} {x : X} (h : Rel x) (arr : Array Value) (e : TypeId) (k : Nat) (hk : k ≤ arr.size) : Evol m x (x.row arr e k) ∧ Rel (x.row arr e k) :=
  ⟨X.grow_evol h _ _, X.grow_rel h _ _ (fun n own hn => by cases hn; exact ⟨arr, e, (0, 0), rfl, hk⟩) (fun id => by simp)⟩

theorem X.row_sl {x : X} (h : Rel x) (arr : Array Value) (e : TypeId) (sz : Nat) (xs : List A) (hl : (flat xs).length ≤ arr.size) (hsz : ∀ e ∈ xs, e.cells.length = sz)
    (hv : ∀ j c, (flat xs)[j]? = some c → VR x c (arr.getD j undef)) :
    VR (x.row arr e (flat xs).length) (.sl .full sz xs) (.slice (some ⟨x.w.heap.size, 0, none⟩) xs.length xs.length) := by
  have he := (X.row_ok (m := fun _ _ => False) h arr e (flat xs).length hl).1
  refine .sl .full sz xs (flat xs) x.w.heap.size 0 xs.length (flat xs).length none (fun j => arr.getD j undef) rfl hsz (Nat.le_refl _) (fun _ => ⟨upd_same _ _ _, by omega⟩) (fun j hj => ?_) (fun j c hj => (hv j c hj).evol he h) rfl
  have h1 : (x.row arr e (flat xs).length).w.heap[x.w.heap.size]? = some (.cells arr e) := by
    show (x.w.alloc _).heap[x.w.heap.size]? = _
    rw [heap_push, if_pos rfl]
  rw [cell_of h1, Nat.zero_add, Array.getElem?_eq_getElem (by omega)]
  simp [Array.getD, show j < arr.size by omega]

/-! ### A new map -/
def X.mapNew (x : X) : X := x.growObj (.map #[] 0) (.map []) (.obj x.σ.n)
theorem X.mapNew_ok {m : Nat → Nat → Prop} {x : X} (h : Rel x) : Evol m x x.mapNew ∧ Rel x.mapNew ∧ VR x.mapNew (.map x.σ.n) (.map (some x.w.heap.size)) := by
  have hblk : x.mapNew.g.blk x.σ.n = x.w.heap.size := upd_same _ _ _
  refine ⟨X.growObj_evol h _ _ _, X.growObj_rel h _ _ _ (fun n own hn => by cases hn) (fun id hid => by cases hid; rfl) ⟨?_, #[], 0, ?_, rfl, fun j k v hj => by simp at hj⟩, ?_⟩
  · rw [show (x.growObj (.map #[] 0) (.map []) (.obj x.σ.n)).g.blk x.σ.n = x.w.heap.size from hblk]
    exact upd_same _ _ _
  · rw [show (x.growObj (.map #[] 0) (.map []) (.obj x.σ.n)).g.blk x.σ.n = x.w.heap.size from hblk]
    show (x.w.alloc _).heap[x.w.heap.size]? = _
    rw [heap_push, if_pos rfl]
  · rw [← hblk]
    exact .map x.σ.n [] (Nat.lt_succ_self _) (upd_same _ _ _)

/-! ### A draw -/
def X.drew (x : X) : X := ⟨x.σ, x.g, x.w.drew⟩
theorem X.drew_ok {m : Nat → Nat → Prop} {x : X} (h : Rel x) : Evol m x x.drew ∧ Rel x.drew := by
  have he : ∀ m, Evol m x x.drew := fun m =>
    { n := Nat.le_refl _, size := Nat.le_refl _, os := rfl, base := rfl, tape := rfl, output := rfl
      objs := (Evol.refl (m := m) h).objs
      blks := (Evol.refl (m := m) h).blks }
  exact ⟨he m, h.step (he fun _ _ => False) (fun id hid => .inl ⟨hid, rfl, rfl, fun _ => rfl⟩) h.lt h.rows h.hits h.toks⟩

/-! ### A store into a variable -/
def setL : List A → Nat → List A → List A
  | cs, _, [] => cs
  | cs, o, v :: r => setL (cs.set o v) (o + 1) r
def setArr : Array Value → Nat → List Value → Array Value
  | cs, _, [] => cs
  | cs, o, v :: r => setArr (cs.setIfInBounds o v) (o + 1) r

theorem setL_length (vs : List A) : ∀ (cs : List A) (o : Nat), (setL cs o vs).length = cs.length := by
  induction vs with
  | nil => intro cs o; rfl
  | cons v r ih => intro cs o; rw [setL, ih, List.length_set]

theorem setArr_size (vs : List Value) : ∀ (cs : Array Value) (o : Nat), (setArr cs o vs).size = cs.size := by
  induction vs with
  | nil => intro cs o; rfl
  | cons v r ih => intro cs o; rw [setArr, ih, Array.size_setIfInBounds]

theorem setL_out (vs : List A) : ∀ (cs : List A) (o j : Nat), (j < o ∨ o + vs.length ≤ j) → (setL cs o vs)[j]? = cs[j]? := by
  induction vs with
  | nil => intro cs o j _; rfl
  | cons v r ih =>
    intro cs o j hj
    simp only [List.length_cons] at hj
    rw [setL, ih _ _ _ (by omega), List.getElem?_set_ne (by omega)]

theorem setArr_out (vs : List Value) : ∀ (cs : Array Value) (o j : Nat), (j < o ∨ o + vs.length ≤ j) → (setArr cs o vs)[j]? = cs[j]? := by
  induction vs with
  | nil => intro cs o j _; rfl
  | cons v r ih =>
    intro cs o j hj
    simp only [List.length_cons] at hj
    rw [setArr, ih _ _ _ (by omega), Array.getElem?_setIfInBounds_ne (by omega)]

theorem setL_in (vs : List A) : ∀ (cs : List A) (o i : Nat), i < vs.length → o + vs.length ≤ cs.length → (setL cs o vs)[o + i]? = vs[i]? := by
  induction vs with
  | nil => intro cs o i hi; simp at hi
  | cons v r ih =>
    intro cs o i hi hle
    simp only [List.length_cons] at hi hle
    rw [setL]
    cases i with
    | zero =>
      rw [setL_out _ _ _ _ (by omega)]
      simp [List.getElem?_set, show o < cs.length by omega]
    | succ i =>
      rw [show o + (i + 1) = o + 1 + i by omega, ih _ _ _ (by omega) (by rw [List.length_set]; omega)]
      simp

theorem setArr_in (vs : List Value) : ∀ (cs : Array Value) (o i : Nat), i < vs.length → o + vs.length ≤ cs.size → (setArr cs o vs)[o + i]? = vs[i]? := by
  induction vs with
  | nil => intro cs o i hi; simp at hi
  | cons v r ih =>
    intro cs o i hi hle
    simp only [List.length_cons] at hi hle
    rw [setArr]
    cases i with
    | zero =>
      rw [setArr_out _ _ _ _ (by omega)]
      simp [Array.getElem?_setIfInBounds, show o < cs.size by omega]
    | succ i =>
      rw [show o + (i + 1) = o + 1 + i by omega, ih _ _ _ (by omega) (by rw [Array.size_setIfInBounds]; omega)]
      simp

theorem heap_setCells (b : Nat) : ∀ (vs : List Value) (o : Nat) (w : World) (cs : Array Value) (e : TypeId) (fr : Nat × Nat), w.heap[b]? = some (.cells cs e fr) →
    (w.setCells b o vs).heap[b]? = some (.cells (setArr cs o vs) e fr)
  | [], _, _, _, _, _, h => h
  | v :: r, o, w, cs, e, fr, h => by
    rw [World.setCells, setArr]
    refine heap_setCells b r (o + 1) _ _ e fr ?_
    simp [World.setCell, Array.getElem?_modify, h]

theorem heap_setCells_ne (b : Nat) : ∀ (vs : List Value) (o : Nat) (w : World) (b' : Nat), b' ≠ b → (w.setCells b o vs).heap[b']? = w.heap[b']?
  | [], _, _, _, _ => rfl
  | v :: r, o, w, b', h => by
    rw [World.setCells, heap_setCells_ne b r (o + 1) _ b' h]
    simp [World.setCell, Array.getElem?_modify, Ne.symm h]

theorem size_setCells (b : Nat) : ∀ (vs : List Value) (o : Nat) (w : World), (w.setCells b o vs).heap.size = w.heap.size
  | [], _, _ => rfl
  | v :: r, o, w => by rw [World.setCells, size_setCells b r (o + 1)]; simp
theorem os_setCells (b : Nat) : ∀ (vs : List Value) (o : Nat) (w : World), (w.setCells b o vs).os = w.os ∧ (w.setCells b o vs).tape = w.tape ∧ (w.setCells b o vs).output = w.output
  | [], _, _ => ⟨rfl, rfl, rfl⟩
  | v :: r, o, w => by rw [World.setCells]; exact os_setCells b r (o + 1) _

def X.put (x : X) (id o : Nat) (cs : List A) (as : List A) (vs : List Value) : X := ⟨x.σ.set id (.cells (setL cs o as)), x.g, x.w.setCells (x.g.blk id) o vs⟩

theorem X.put_ok {m : Nat → Nat → Prop} {x : X} (h : Rel x) (id o : Nat) (cs as : List A) (vs : List Value) (hid : id < x.σ.n) (hc : x.σ.obj id = .cells cs) (hl : vs.length = as.length)
    (hle : o + as.length ≤ cs.length) (hv : ∀ j c, as[j]? = some c → VR x c (vs.getD j undef)) (hm : ∀ j, j < as.length → m id (o + j)) :
    Evol m x (x.put id o cs as vs) ∧ Rel (x.put id o cs as vs) := by
  have a := h.objs id hid
  rw [hc] at a
  obtain ⟨a1, arr, e, a2, a3, a4⟩ := a
  have hblkne : ∀ i, i < x.σ.n → i ≠ id → (∀ hw, x.σ.obj i ≠ .row hw) → x.g.blk i ≠ x.g.blk id := fun i hi hne hr heq => by
    have b := h.objs i hi
    cases ho : x.σ.obj i with
    | cells _ => rw [ho] at b; have b1 := b.1; rw [heq, a1] at b1; injection b1 with b1; exact hne b1.symm
    | map _ => rw [ho] at b; have b1 := b.1; rw [heq, a1] at b1; injection b1 with b1; exact hne b1.symm
    | row hw => exact hr hw ho
  have e1 := heap_setCells (x.g.blk id) vs o x.w arr e (0, 0) a2
  have eo := os_setCells (x.g.blk id) vs o x.w
  have he : Evol m x (x.put id o cs as vs) :=
    { n := Nat.le_refl _
      size := Nat.le_of_eq (size_setCells _ _ _ _).symm
      os := eo.1
      base := rfl
      tape := eo.2.1
      output := eo.2.2
      objs := fun i hi => by
        by_cases hie : i = id
        · subst hie
          rw [hc]
          refine ⟨rfl, setL cs o as, upd_same _ _ _, setL_length _ _ _, fun off hoff => ?_⟩
          have hout : off < o ∨ o + as.length ≤ off := by
            rcases Nat.lt_or_ge off o with h1 | h1
            · exact .inl h1
            · rcases Nat.lt_or_ge off (o + as.length) with h2 | h2
              · exact absurd (by have := hm (off - o) (by omega); rwa [show o + (off - o) = off by omega] at this) hoff
              · exact .inr h2
          refine ⟨setL_out _ _ _ _ hout, ?_⟩
          show (x.w.setCells (x.g.blk i) o vs).cell? _ = _
          rw [cell_of e1, cell_of a2, setArr_out _ _ _ _ (by omega)]
        · have e2 : (x.put id o cs as vs).σ.obj i = x.σ.obj i := upd_ne _ _ hie
          cases ho : x.σ.obj i with
          | cells cs' =>
            refine ⟨rfl, cs', e2.trans ho, rfl, fun off _ => ⟨rfl, ?_⟩⟩
            have hb := hblkne i hi hie (by rw [ho]; simp)
            show (x.w.setCells (x.g.blk id) o vs).cell? _ = _
            exact World.cell?_of_block (heap_setCells_ne _ _ _ _ _ hb)
          | map es => exact ⟨rfl, es, e2.trans ho, fun _ => ⟨rfl, heap_setCells_ne _ _ _ _ _ (hblkne i hi hie (by rw [ho]; simp))⟩⟩
          | row hw => exact ⟨hw, e2.trans ho, Nat.le_refl _, fun _ => rfl⟩
      blks := fun b hb => by
        cases hk : x.g.kind b with
        | free =>
          refine ⟨hk, heap_setCells_ne _ _ _ _ _ (fun q => ?_)⟩
          rw [q, a1] at hk
          cases hk
        | obj i => exact hk
        | row k own =>
          have hne : b ≠ x.g.blk id := fun q => by rw [q, a1] at hk; cases hk
          obtain ⟨cs1, e2, fr, h1, _⟩ := h.rows b k own hk
          exact ⟨k, Nat.le_refl _, hk, ⟨cs1, e2, fr, cs1, h1, (heap_setCells_ne _ _ _ _ _ hne).trans h1, rfl, fun _ _ => rfl⟩, fun t hw _ _ h1 h2 => rfl⟩ }
  refine ⟨he, h.step he (fun i hi => ?_) (fun b hb => h.lt b (by rw [← size_setCells (x.g.blk id) vs o x.w]; exact hb)) (fun b k own hk => ?_) h.hits h.toks⟩
  · by_cases hie : i = id
    · subst hie
      right
      have : (x.put i o cs as vs).σ.obj i = .cells (setL cs o as) := upd_same _ _ _
      rw [this]
      refine ⟨a1, setArr arr o vs, e, e1, by rw [setArr_size, setL_length]; exact a3, fun j c hj => ?_⟩
      by_cases hout : j < o ∨ o + as.length ≤ j
      · rw [setL_out _ _ _ _ hout] at hj
        have := a4 j c hj
        rw [arr_getD (setArr_out _ _ _ _ (by omega))]
        exact this.evol he h
      · obtain ⟨i', rfl⟩ : ∃ i', j = o + i' := ⟨j - o, by omega⟩
        rw [setL_in _ _ _ _ (by omega) hle] at hj
        have := hv i' c hj
        rw [arr_getD_list (setArr_in _ _ _ _ (by omega) (by omega))]
        exact this.evol he h
    · left
      exact ⟨hi, upd_ne _ _ hie, rfl, fun hr => heap_setCells_ne _ _ _ _ _ (hblkne i hi hie hr)⟩
  · have hne : b ≠ x.g.blk id := fun q => by
      have : x.g.kind b = .row k own := hk
      rw [q, a1] at this
      cases this
    obtain ⟨cs1, e2, fr, h1, h2⟩ := h.rows b k own hk
    exact ⟨cs1, e2, fr, (heap_setCells_ne _ _ _ _ _ hne).trans h1, h2⟩

/-! ### A map's entries -/
def X.remap (x : X) (id : Nat) (es : List (A × A)) (ents : Array MapEntry) (clock : Nat) : X := ⟨x.σ.set id (.map es), x.g, { x.w with heap := x.w.heap.setIfInBounds (x.g.blk id) (.map ents clock) }⟩

theorem X.remap_ok {m : Nat → Nat → Prop} {x : X} (h : Rel x) (id : Nat) (es0 es : List (A × A)) (ents : Array MapEntry) (clock : Nat) (hid : id < x.σ.n) (hc : x.σ.obj id = .map es0) (hl : ents.size = es.length)
    (hv : ∀ (j : Nat) k v, es[j]? = some (k, v) → VR x k (ents.getD j default).key ∧ VR x v (ents.getD j default).val) (hm : m id 0) : Evol m x (x.remap id es ents clock) ∧ Rel (x.remap id es ents clock) := by
  have a := h.objs id hid
  rw [hc] at a
  obtain ⟨a1, ents0, clock0, a2, a3, a4⟩ := a
  have hblt : x.g.blk id < x.w.heap.size := h.blk_lt (by rw [a1]; simp)
  have hblkne : ∀ i, i < x.σ.n → i ≠ id → (∀ hw, x.σ.obj i ≠ .row hw) → x.g.blk i ≠ x.g.blk id := fun i hi hne hr heq => by
    have b := h.objs i hi
    cases ho : x.σ.obj i with
    | cells _ => rw [ho] at b; have b1 := b.1; rw [heq, a1] at b1; injection b1 with b1; exact hne b1.symm
    | map _ => rw [ho] at b; have b1 := b.1; rw [heq, a1] at b1; injection b1 with b1; exact hne b1.symm
    | row hw => exact hr hw ho
  have e1 : (x.remap id es ents clock).w.heap[x.g.blk id]? = some (.map ents clock) := by
    show (x.w.heap.setIfInBounds _ _)[_]? = _
    simp [hblt]
  have e2 : ∀ b, b ≠ x.g.blk id → (x.remap id es ents clock).w.heap[b]? = x.w.heap[b]? := fun b hb => by
    show (x.w.heap.setIfInBounds _ _)[_]? = _
    exact Array.getElem?_setIfInBounds_ne (Ne.symm hb)
  have es0' : (x.remap id es ents clock).w.heap.size = x.w.heap.size := by simp [X.remap]
  have he : Evol m x (x.remap id es ents clock) :=
    { n := Nat.le_refl _
      size := Nat.le_of_eq es0'.symm
      os := rfl
      base := rfl
      tape := rfl
      output := rfl
      objs := fun i hi => by
        by_cases hie : i = id
        · subst hie
          rw [hc]
          exact ⟨rfl, es, upd_same _ _ _, fun q => absurd hm q⟩
        · have e3 : (x.remap id es ents clock).σ.obj i = x.σ.obj i := upd_ne _ _ hie
          cases ho : x.σ.obj i with
          | cells cs' => exact ⟨rfl, cs', e3.trans ho, rfl, fun off _ => ⟨rfl, World.cell?_of_block (e2 _ (hblkne i hi hie (by rw [ho]; simp)))⟩⟩
          | map es' => exact ⟨rfl, es', e3.trans ho, fun _ => ⟨rfl, e2 _ (hblkne i hi hie (by rw [ho]; simp))⟩⟩
          | row hw => exact ⟨hw, e3.trans ho, Nat.le_refl _, fun _ => rfl⟩
      blks := fun b hb => by
        cases hk : x.g.kind b with
        | free =>
          refine ⟨hk, e2 _ (fun q => ?_)⟩
          rw [q, a1] at hk
          cases hk
        | obj i => exact hk
        | row k own =>
          have hne : b ≠ x.g.blk id := fun q => by rw [q, a1] at hk; cases hk
          obtain ⟨cs1, e3, fr, h1, _⟩ := h.rows b k own hk
          exact ⟨k, Nat.le_refl _, hk, ⟨cs1, e3, fr, cs1, h1, (e2 _ hne).trans h1, rfl, fun _ _ => rfl⟩, fun t hw _ _ h1 h2 => rfl⟩ }
  refine ⟨he, h.step he (fun i hi => ?_) (fun b hb => h.lt b (by rw [← es0']; exact hb)) (fun b k own hk => ?_) h.hits h.toks⟩
  · by_cases hie : i = id
    · subst hie
      right
      have : (x.remap i es ents clock).σ.obj i = .map es := upd_same _ _ _
      rw [this]
      exact ⟨a1, ents, clock, e1, hl, fun j k v hj => ⟨(hv j k v hj).1.evol he h, (hv j k v hj).2.evol he h⟩⟩
    · left
      exact ⟨hi, upd_ne _ _ hie, rfl, fun hr => e2 _ (hblkne i hi hie hr)⟩
  · have hne : b ≠ x.g.blk id := fun q => by
      have : x.g.kind b = .row k own := hk
      rw [q, a1] at this
      cases this
    obtain ⟨cs1, e3, fr, h1, h2⟩ := h.rows b k own hk
    exact ⟨cs1, e3, fr, (e2 _ hne).trans h1, h2⟩

end Go.Proofs.YtkpijfgananjjaaDoor.Ga
