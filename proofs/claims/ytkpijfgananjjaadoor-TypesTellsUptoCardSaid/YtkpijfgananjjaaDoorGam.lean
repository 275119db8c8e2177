/- Maps: what a lookup, an update, a deletion come to; the lesser and the greater of two numbers. -/
import Derived.Test.YtkpijfgananjjaaDoorGa6
import Derived.MapKept
set_option linter.unusedVariables false
set_option linter.unusedSimpArgs false
namespace Go.Proofs.YtkpijfgananjjaaDoor.Ga

def KeyDesc (str : Bool) (d : TypeDesc) : Prop := if str then d = .string else ∃ q, d = .int q

theorem keyEq_now {str : Bool} {d : TypeDesc} (hd : KeyDesc str d) {x : X} {a b : A} {u v : Value} (ha : VR x a u) (hb : VR x b v) {r : Bool} (h : keyEq str a b = some r) :
    Instr.sameNow d u v = some r ∧ (r = true → u = v) := by
  unfold keyEq at h
  cases str
  · obtain ⟨q, rfl⟩ := hd
    split at h
    · cases ha; cases hb
      simp only [Bool.false_eq_true, if_false] at h
      split at h
      · rename_i hk
        subst hk
        injection h with h
        subst h
        exact ⟨by simp [Instr.sameNow], fun e => by rw [beq_iff_eq] at e; rw [e]⟩
      · cases h
    · simp at h
    · cases h
  · obtain rfl : d = .string := hd
    split at h
    · simp at h
    · cases ha; cases hb
      simp only [if_true] at h
      injection h with h
      subst h
      rename_i s t
      refine ⟨?_, fun e => by rw [beq_iff_eq] at e; rw [e]⟩
      simp only [Instr.sameNow]
      congr 1
      rw [Bool.eq_iff_iff, MapKept.bytes_beq, beq_iff_eq]
      exact ⟨fun e => by injection e with e; simpa using congrArg Array.toList e, fun e => by rw [e]⟩
    · cases h

/-- What a search of the model finds. -/
theorem find_spec {str : Bool} {d : TypeDesc} (hd : KeyDesc str d) {x : X} {key : A} {u : Value} (hu : VR x key u) : ∀ (es : List (A × A)) (ents : List MapEntry) (i : Nat), ents.length = es.length →
    (∀ (j : Nat) k v, es[j]? = some (k, v) → VR x k (ents.getD j default).key ∧ VR x v (ents.getD j default).val) → ∀ r, mget str es key = some r →
    (r = none ∧ Instr.findNow d u ents i = some none ∧ (∀ a, mput str es key a = some (es ++ [(key, a)])) ∧ mdel str es key = some es) ∨
    ∃ (v : A) (j : Nat) (e : MapEntry), r = some v ∧ Instr.findNow d u ents i = some (some (i + j, e.val)) ∧ ents[j]? = some e ∧ e.key = u ∧ VR x v e.val ∧ (∀ a, mput str es key a = some (es.set j (key, a))) ∧ mdel str es key = some (es.eraseIdx j)
  | [], [], i, _, _, r, h => by
    simp only [mget] at h
    injection h with h
    subst h
    exact .inl ⟨rfl, rfl, fun a => rfl, rfl⟩
  | [], _ :: _, _, hl, _, _, _ => by simp at hl
  | _ :: _, [], _, hl, _, _, _ => by simp at hl
  | (k, v) :: es, e :: ents, i, hl, hv, r, h => by
    obtain ⟨hk0, hv0⟩ := hv 0 k v rfl
    have hk0 : VR x k e.key := hk0
    have hv0 : VR x v e.val := hv0
    simp only [mget] at h
    cases hq : keyEq str key k with
    | none => rw [hq] at h; cases h
    | some b =>
      rw [hq] at h
      obtain ⟨h1, h2⟩ := keyEq_now hd hu hk0 hq
      cases b with
      | true =>
        injection h with h
        subst h
        exact .inr ⟨v, 0, e, rfl, by simp [Instr.findNow, h1], rfl, (h2 rfl).symm, hv0, fun a => by simp [mput, hq], by simp [mdel, hq]⟩
      | false =>
        have h : mget str es key = some r := h
        rcases find_spec hd hu es ents (i + 1) (by simpa using hl) (fun j k v hj => by simpa using hv (j + 1) k v (by simpa using hj)) r h with ⟨g1, g2, g3, g4⟩ | ⟨w, j, e', g1, g2, g3, g4, g5, g6, g7⟩
        · exact .inl ⟨g1, by simp [Instr.findNow, h1, g2], fun a => by simp [mput, hq, g3], by simp [mdel, hq, g4]⟩
        · exact .inr ⟨w, j + 1, e', g1, by simp [Instr.findNow, h1, g2]; omega, by simpa using g3, g4, g5, fun a => by simp [mput, hq, g6], by simp [mdel, hq, g7]⟩

theorem mput_mget {str : Bool} {key a : A} : ∀ {es es' : List (A × A)}, mput str es key a = some es' → ∃ r, mget str es key = some r
  | [], _, _ => ⟨_, rfl⟩
  | (k, u) :: es, es', h => by
    simp only [mput] at h
    simp only [mget]
    cases hq : keyEq str key k with
    | none => rw [hq] at h; cases h
    | some b =>
      rw [hq] at h
      cases b with
      | true => exact ⟨_, rfl⟩
      | false =>
        cases hm : mput str es key a with
        | none => simp [hm] at h
        | some l => exact mput_mget hm
theorem mdel_mget {str : Bool} {key : A} : ∀ {es es' : List (A × A)}, mdel str es key = some es' → ∃ r, mget str es key = some r
  | [], _, _ => ⟨_, rfl⟩
  | (k, u) :: es, es', h => by
    simp only [mdel] at h
    simp only [mget]
    cases hq : keyEq str key k with
    | none => rw [hq] at h; cases h
    | some b =>
      rw [hq] at h
      cases b with
      | true => exact ⟨_, rfl⟩
      | false =>
        cases hm : mdel str es key with
        | none => simp [hm] at h
        | some l => exact mdel_mget hm

section
variable {P : Program} {m : Nat → Nat → Prop} {x : X} {act : Act} {o : Oper} {k pk : A → St → Prop} {env : Env} {n : Nat}

theorem mapTy_full {t : TypeId} {str : Bool} {e : TypeId} (h : mapTy P t = some (str, e)) : ∃ kt d, P.underlying t = some (.map kt e) ∧ P.underlying kt = some d ∧ KeyDesc str d := by
  unfold mapTy at h
  split at h
  · rename_i kt e' hu
    unfold keyStr at h
    split at h
    · rename_i q hq
      simp at h
      obtain ⟨rfl, rfl⟩ := h
      exact ⟨kt, _, hu, hq, ⟨q, rfl⟩⟩
    · rename_i hq
      simp at h
      obtain ⟨rfl, rfl⟩ := h
      exact ⟨kt, _, hu, hq, rfl⟩
    · simp at h
  · cases h

theorem run_check {kt : TypeId} {d : TypeDesc} {str : Bool} (hk : P.underlying kt = some d) (hd : KeyDesc str d) {u : Value} (em : Bool) (w : World) : (Instr.checkKey em 10000 kt u).run P w = .ok () w := by
  show (Instr.checkKey em (9999 + 1) kt u).run P w = _
  unfold Instr.checkKey
  simp only [Sem.run_bind, run_underlying hk, Result.andThen]
  cases str
  · obtain ⟨q, rfl⟩ := hd
    cases u <;> rfl
  · obtain rfl : d = .string := hd
    cases u <;> rfl

theorem run_stays {str : Bool} {key : A} {u : Value} (hu : VR x key u) (h : keyOk str key = true) (w : World) : (Instr.keyThatStays u u).run P w = .ok u w := by
  unfold keyOk at h
  split at h
  · cases hu; simp [Instr.keyThatStays, Instr.sameBits]
  · cases hu
    rename_i s
    have : ((⟨s.toArray⟩ : ByteArray) == ⟨s.toArray⟩) = true := (MapKept.bytes_beq _ _).2 rfl
    simp [Instr.keyThatStays, Instr.sameBits, this]
  · cases h

/-- A map's entries, in the model too. -/
theorem map_at (hx : Rel x) {id : Nat} {es : List (A × A)} (hid : id < x.σ.n) (hc : x.σ.obj id = .map es) : ∃ ents clock, x.w.heap[x.g.blk id]? = some (.map ents clock) ∧ ents.size = es.length ∧
    ∀ (j : Nat) k v, es[j]? = some (k, v) → VR x k (ents.getD j default).key ∧ VR x v (ents.getD j default).val := by
  have a := hx.objs id hid
  rw [hc] at a
  exact a.2

theorem getD_list (ents : Array MapEntry) (j : Nat) : ents.toList.getD j default = ents.getD j default := by
  rw [Array.getD_eq_getD_getElem?, List.getD_eq_getElem?_getD]; simp

/-- The map is the same in all worlds of S. -/
def MapIn (S : World → Prop) (x : X) : A → Prop
  | .map id => ∀ es, x.σ.obj id = .map es → id < x.σ.n → ∀ w, S w → w.heap[x.g.blk id]? = x.w.heap[x.g.blk id]?
  | _ => True

theorem Yl.lookup {S : World → Prop} (hx : Rel x) (he : EnvR x env n act) {t e : TypeId} {str : Bool} {z : A} (ht : mapTy P t = some (str, e)) (hz : tyZero P e = some z) {a b : Operand} {sa sb : Opd} (hca : cOpd a = some sa) (hcb : cOpd b = some sb) {ok : Bool}
    (ho : o.op = .lookup t a b ok) (hS : ∀ v, ev env sa = some v → MapIn S x v) (h : stepO P m env x.σ (.lookup str z sa sb ok) k pk) : YlS P S x act o k := by
  obtain ⟨kt, d, hu, hk, hd⟩ := mapTy_full ht
  obtain ⟨va, h1, h2⟩ := wi h
  obtain ⟨vb, h3, h4⟩ := wi h2
  obtain ⟨h5, h6⟩ := Dc.out h4
  obtain ⟨es, h7, h8⟩ := wo h6
  obtain ⟨r, h9, h10⟩ := wo h8
  have hva := ev_vr he hca h1
  have hSv := hS va h1
  have hvb := ev_vr he hcb h3
  obtain ⟨zv, hz1, hz2⟩ := run_zero hz
  generalize hpa : act.eval a = pa at hva
  generalize hpb : act.eval b = pb at hvb
  have fin : ∀ (ents : List MapEntry) (_ : ents.length = es.length) (_ : ∀ (j : Nat) k v, es[j]? = some (k, v) → VR x k (ents.getD j default).key ∧ VR x v (ents.getD j default).val),
      ∃ (fr : Option (Nat × Value)) (u : Value) (b : Bool), Instr.findNow d pb ents 0 = some fr ∧ (match fr with | some (_, w) => u = w ∧ b = true | none => u = zv ∧ b = false) ∧ VR x (gotten z ok r) (if ok then .tuple #[u, .bool b] else u) := fun ents hl hv => by
    have tup : ∀ {a : A} {v : Value} {b : Bool}, VR x a v → VR x (if ok then .tup [a, .bool b] else a) (if ok then .tuple #[v, .bool b] else v) := fun {a v b} hav => by
      cases ok
      · exact hav
      · exact .tup _ _ rfl (fun j c hj => by
          match j with
          | 0 => simp at hj; subst hj; simpa using hav
          | 1 => simp at hj; subst hj; simpa using VR.bool b
          | j + 2 => simp at hj)
    rcases find_spec hd hvb es ents 0 hl hv r h9 with ⟨rfl, g2, _⟩ | ⟨v, j, en, rfl, g2, _, _, g5, _⟩
    · exact ⟨none, zv, false, g2, ⟨rfl, rfl⟩, tup (absV_vr hz2 x)⟩
    · exact ⟨some (_, en.val), en.val, true, g2, ⟨rfl, rfl⟩, tup g5⟩
  unfold mapOf at h7
  split at h7
  · injection h7 with h7
    subst h7
    cases hva
    obtain ⟨fr, u, b, q1, q2, q3⟩ := fin [] rfl (fun j k v hj => by simp at hj)
    refine ⟨_, _, fun w0 hw0 => ?_, q3, h10⟩
    cases fr with
    | none => obtain ⟨rfl, rfl⟩ := q2; simp [execOp, ho, hpa, hpb, Instr.lookup, run_underlying hu, Result.andThen, run_check hk hd, MapKept.run_findKey hk q1, hz1]
    | some p => obtain ⟨i, w⟩ := p; obtain ⟨rfl, rfl⟩ := q2; simp [execOp, ho, hpa, hpb, Instr.lookup, run_underlying hu, Result.andThen, run_check hk hd, MapKept.run_findKey hk q1, hz1]
  · rename_i id
    cases hva with
    | map _ es' hid hes' =>
      rw [hes'] at h7
      injection h7 with h7
      subst h7
      obtain ⟨ents, clock, a2, a3, a4⟩ := map_at hx hid hes'
      obtain ⟨fr, u, b, q1, q2, q3⟩ := fin ents.toList (by simpa using a3) (fun j k v hj => by rw [getD_list]; exact a4 j k v hj)
      refine ⟨_, _, fun w0 hw0 => ?_, q3, h10⟩
      have a2' := (hSv _ hes' hid w0 hw0).trans a2
      cases fr with
      | none => obtain ⟨rfl, rfl⟩ := q2; simp [execOp, ho, hpa, hpb, Instr.lookup, run_underlying hu, Result.andThen, MapKept.run_getObj_map a2', run_check hk hd, MapKept.run_findKey hk q1, hz1]
      | some p => obtain ⟨i, w⟩ := p; obtain ⟨rfl, rfl⟩ := q2; simp [execOp, ho, hpa, hpb, Instr.lookup, run_underlying hu, Result.andThen, MapKept.run_getObj_map a2', run_check hk hd, MapKept.run_findKey hk q1, hz1]
  · cases h7

theorem Yl.lenMap {S : World → Prop} (hx : Rel x) (he : EnvR x env n act) {t e e' : TypeId} (ht : P.underlying t = some (.map e e')) {a : Operand} {sa : Opd} (hca : cOpd a = some sa)
    (ho : o.op = .call { callee := .builtin .len, args := #[a], argTypes := #[t] }) (hS : ∀ v, ev env sa = some v → MapIn S x v) (h : stepO P m env x.σ (.len .map sa) k pk) : YlS P S x act o k := by
  obtain ⟨v, h1, h2⟩ := wi h
  have hv := ev_vr he hca h1
  have hSv := hS v h1
  generalize hev : act.eval a = va at hv
  cases v
  case map id =>
    have h2' : (match x.σ.obj id with | .map es => k (.int .i64 es.length) x.σ | _ => False) := h2
    split at h2'
    · rename_i es hes
      cases hv with
      | map _ es' hid hes' =>
        have a := hx.objs id hid
        rw [hes] at a
        obtain ⟨_, ents, clock, a2, a3, _⟩ := a
        refine ⟨_, .int .i64 es.length, fun w hw => ?_, .int _ _, h2'⟩
        have a2' := (hSv es hes hid w hw).trans a2
        simp [execOp, ho, hev, resolve, invoke, builtin, Builtin.len_, run_underlying ht, goInt, getObj, Sem.run, a2', a3]
    · exact h2'.elim
  case nilm =>
    cases hv
    exact ⟨_, _, fun w hw => by simp [execOp, ho, hev, resolve, invoke, builtin, Builtin.len_, run_underlying ht, goInt], .int _ _, h2⟩
  all_goals exact False.elim h2
theorem mapIn_here (x : X) (v : A) : MapIn (· = x.w) x v := by
  unfold MapIn
  split
  · intro es _ _ w hw; rw [hw]
  · trivial

theorem Does.mapUpd (hx : Rel x) (he : EnvR x env n act) {t e : TypeId} {str : Bool} (ht : mapTy P t = some (str, e)) {a b c : Operand} {sa sb sc : Opd} (hca : cOpd a = some sa) (hcb : cOpd b = some sb) (hcc : cOpd c = some sc)
    (ho : o.op = .mapUpdate t a b c ∨ o.op = .insert t a b c) (h : stepO P m env x.σ (.mapUpd str sa sb sc) k pk) : Does P m x act o k pk := by
  obtain ⟨kt, d, hu, hk, hd⟩ := mapTy_full ht
  obtain ⟨va, h1, h2⟩ := wi h
  obtain ⟨vb, h3, h4⟩ := wi h2
  obtain ⟨vc, h3', h4'⟩ := wi h4
  obtain ⟨h5, h6⟩ := Dc.out h4'
  have hva := ev_vr he hca h1
  have hvb := ev_vr he hcb h3
  have hvc := ev_vr he hcc h3'
  generalize hpa : act.eval a = pa at hva
  generalize hpb : act.eval b = pb at hvb
  generalize hpc : act.eval c = pc at hvc
  split at h6
  · rename_i id
    split at h6
    · rename_i es hes
      obtain ⟨es', h7, hm, h8⟩ := wo h6
      cases hva with
      | map _ es0 hid hes' =>
        obtain ⟨ents, clock, a2, a3, a4⟩ := map_at hx hid hes
        obtain ⟨r, hr⟩ := mput_mget h7
        have hex : ∀ w, (execOp act.eval o).run P w = ((Instr.mapUpdate t (.map (some (x.g.blk id))) pb pc).run P w).andThen fun _ w => .ok .skip w := fun w => by
          rcases ho with ho | ho <;> simp only [execOp, ho, hpa, hpb, hpc, Sem.run_bind] <;> rfl
        rcases find_spec hd hvb es ents.toList 0 (by simpa using a3) (fun j k v hj => by rw [getD_list]; exact a4 j k v hj) r hr with ⟨rfl, g2, g3, _⟩ | ⟨v, j, en, rfl, g2, g3, g4, _, g6, _⟩
        · rw [g3] at h7
          injection h7 with h7
          subst h7
          obtain ⟨r1, r2⟩ := X.remap_ok (m := m) hx id es (es ++ [(vb, vc)]) (ents.push { key := pb, val := pc, born := clock }) (clock + 1) hid hes (by simp [a3]) (fun j k v hj => by
            rcases Nat.lt_or_ge j es.length with q | q
            · rw [List.getElem?_append_left q] at hj
              have := a4 j k v hj
              simp only [Array.getD_eq_getD_getElem?] at this ⊢
              rwa [Array.getElem?_push, if_neg (by omega)]
            · rw [List.getElem?_append_right q] at hj
              obtain rfl : j = es.length := by
                rcases Nat.lt_or_ge (j - es.length) 1 with q' | q'
                · omega
                · rw [List.getElem?_eq_none (by simpa using q')] at hj; cases hj
              simp at hj
              obtain ⟨rfl, rfl⟩ := hj
              simp only [Array.getD_eq_getD_getElem?]
              rw [Array.getElem?_push, if_pos a3.symm]
              exact ⟨hvb, hvc⟩) hm
          refine Does.skip _ ?_ r1 r2 h8
          rw [hex]
          simp [Instr.mapUpdate, run_underlying hu, Result.andThen, MapKept.run_getObj_map a2, run_check hk hd, MapKept.run_findKey hk g2, MapKept.run_setObj_map _ a2, X.remap]
        · rw [g6] at h7
          injection h7 with h7
          subst h7
          have hj : j < ents.size := by
            rcases Nat.lt_or_ge j ents.size with q | q
            · exact q
            · rw [List.getElem?_eq_none (by simpa using q)] at g3; cases g3
          have g3' : ents[j]? = some en := by rw [← g3]; simp
          obtain ⟨r1, r2⟩ := X.remap_ok (m := m) hx id es (es.set j (vb, vc)) (ents.modify j fun e => { e with key := pb, val := pc }) clock hid hes (by simp [a3]) (fun i k v hi => by
            simp only [Array.getD_eq_getD_getElem?, Array.getElem?_modify]
            by_cases hij : j = i
            · subst hij
              rw [List.getElem?_set_self (by omega)] at hi
              injection hi with hi
              injection hi with e1 e2
              subst e1 e2
              simp only [if_true, g3', Option.map_some, Option.getD_some]
              exact ⟨hvb, hvc⟩
            · rw [List.getElem?_set_ne hij] at hi
              have := a4 i k v hi
              simp only [Array.getD_eq_getD_getElem?] at this
              simpa only [if_neg hij] using this) hm
          refine Does.skip _ ?_ r1 r2 h8
          rw [hex]
          have g2' : Instr.findNow d pb ents.toList 0 = some (some (j, en.val)) := by simpa using g2
          have hst := run_stays (P := P) hvb h5 x.w
          simp [Instr.mapUpdate, run_underlying hu, Result.andThen, MapKept.run_getObj_map a2, run_check hk hd, MapKept.run_findKey hk g2', g3', g4, hst, MapKept.run_setObj_map _ a2, X.remap]
    · exact h6.elim
  · exact h6.elim

theorem Does.delete (hx : Rel x) (he : EnvR x env n act) {t e : TypeId} {str : Bool} {ts : List TypeId} (ht : mapTy P t = some (str, e)) {a b : Operand} {sa sb : Opd} (hca : cOpd a = some sa) (hcb : cOpd b = some sb) {argTypes : Array TypeId} (hat : argTypes.toList = t :: ts)
    (ho : o.op = .call { callee := .builtin .delete, args := #[a, b], argTypes }) (h : stepO P m env x.σ (.delete str sa sb) k pk) : Does P m x act o k pk := by
  obtain ⟨kt, d, hu, hk, hd⟩ := mapTy_full ht
  obtain ⟨va, h1, h2⟩ := wi h
  obtain ⟨vb, h3, h4⟩ := wi h2
  obtain ⟨h5, h6⟩ := Dc.out h4
  have hva := ev_vr he hca h1
  have hvb := ev_vr he hcb h3
  have hat0 : argTypes[0]? = some t := by rw [← Array.getElem?_toList, hat]; rfl
  generalize hpa : act.eval a = pa at hva
  generalize hpb : act.eval b = pb at hvb
  split at h6
  · rename_i id
    split at h6
    · rename_i es hes
      obtain ⟨es', h7, hm, h8⟩ := wo h6
      cases hva with
      | map _ es0 hid hes' =>
        obtain ⟨ents, clock, a2, a3, a4⟩ := map_at hx hid hes
        obtain ⟨r, hr⟩ := mdel_mget h7
        rcases find_spec hd hvb es ents.toList 0 (by simpa using a3) (fun j k v hj => by rw [getD_list]; exact a4 j k v hj) r hr with ⟨rfl, g2, _, g3⟩ | ⟨v, j, en, rfl, g2, g3, g4, _, _, g6⟩
        · rw [g3] at h7
          injection h7 with h7
          subst h7
          obtain ⟨r1, r2⟩ := X.remap_ok (m := m) hx id es es ents clock hid hes a3 a4 hm
          refine Does.val _ _ (.tuple #[]) ?_ r1 r2 (.tup [] #[] rfl (fun j c hj => by simp at hj)) h8
          simp [execOp, ho, hpa, hpb, resolve, invoke, builtin, Builtin.delete_, hat0, run_underlying hu, Result.andThen, MapKept.run_getObj_map a2, run_check hk hd, MapKept.run_findKey hk g2, MapKept.run_setObj_map _ a2, X.remap]
        · rw [g6] at h7
          injection h7 with h7
          subst h7
          have hj : j < ents.size := by
            rcases Nat.lt_or_ge j ents.size with q | q
            · exact q
            · rw [List.getElem?_eq_none (by simpa using q)] at g3; cases g3
          have htl : (ents.eraseIdxIfInBounds j).toList = ents.toList.eraseIdx j := by
            unfold Array.eraseIdxIfInBounds
            rw [dif_pos hj, Array.toList_eraseIdx]
          obtain ⟨r1, r2⟩ := X.remap_ok (m := m) hx id es (es.eraseIdx j) (ents.eraseIdxIfInBounds j) clock hid hes (by rw [← Array.length_toList, htl, List.length_eraseIdx, List.length_eraseIdx]; simp [a3]) (fun i k v hi => by
            rw [List.getElem?_eraseIdx] at hi
            rw [← getD_list, htl, List.getD_eq_getElem?_getD, List.getElem?_eraseIdx]
            split at hi
            · rename_i hij
              rw [if_pos hij]
              have := a4 i k v hi
              rw [← getD_list, List.getD_eq_getElem?_getD] at this
              exact this
            · rename_i hij
              rw [if_neg hij]
              have := a4 (i + 1) k v hi
              rw [← getD_list, List.getD_eq_getElem?_getD] at this
              exact this) hm
          refine Does.val _ _ (.tuple #[]) ?_ r1 r2 (.tup [] #[] rfl (fun j c hj => by simp at hj)) h8
          have g2' : Instr.findNow d pb ents.toList 0 = some (some (j, en.val)) := by simpa using g2
          simp [execOp, ho, hpa, hpb, resolve, invoke, builtin, Builtin.delete_, hat0, run_underlying hu, Result.andThen, MapKept.run_getObj_map a2, run_check hk hd, MapKept.run_findKey hk g2', MapKept.run_setObj_map _ a2, X.remap]
    · exact h6.elim
  · exact h6.elim

theorem Does.clear (hx : Rel x) (he : EnvR x env n act) {t e : TypeId} {str : Bool} (ht : mapTy P t = some (str, e)) {a : Operand} {sa : Opd} (hca : cOpd a = some sa)
    (ho : o.op = .call { callee := .builtin .clear, args := #[a], argTypes := #[t] }) (h : stepO P m env x.σ (.clear sa) k pk) : Does P m x act o k pk := by
  obtain ⟨kt, d, hu, hk, hd⟩ := mapTy_full ht
  obtain ⟨va, h1, h2⟩ := wi h
  have hva := ev_vr he hca h1
  generalize hpa : act.eval a = pa at hva
  split at h2
  · rename_i id
    split at h2
    · rename_i es hes
      obtain ⟨hm, h8⟩ := h2
      cases hva with
      | map _ es0 hid hes' =>
        obtain ⟨ents, clock, a2, a3, a4⟩ := map_at hx hid hes
        obtain ⟨r1, r2⟩ := X.remap_ok (m := m) hx id es [] #[] clock hid hes rfl (fun j k v hj => by simp at hj) hm
        refine Does.val _ _ (.tuple #[]) ?_ r1 r2 (.tup [] #[] rfl (fun j c hj => by simp at hj)) h8
        simp [execOp, ho, hpa, resolve, invoke, builtin, Builtin.clear_, run_underlying hu, Result.andThen, MapKept.run_getObj_map a2, MapKept.run_setObj_map _ a2, X.remap]
    · exact h2.elim
  · exact h2.elim

theorem Yl.mnmx (hx : Rel x) (he : EnvR x env n act) {mn : Bool} {a b : Operand} {sa sb : Opd} (hca : cOpd a = some sa) (hcb : cOpd b = some sb) {argTypes : Array TypeId}
    (ho : o.op = .call { callee := .builtin (if mn then .min else .max), args := #[a, b], argTypes }) (h : stepO P m env x.σ (.mnmx mn sa sb) k pk) : YlAll P x act o k := by
  obtain ⟨va, h1, h2⟩ := wi h
  obtain ⟨vb, h3, h4⟩ := wi h2
  have hva := ev_vr he hca h1
  have hvb := ev_vr he hcb h3
  generalize hpa : act.eval a = pa at hva
  generalize hpb : act.eval b = pb at hvb
  split at h4
  · rename_i q i q' j
    cases hva
    cases hvb
    refine YlAll.mk _ (.int q (if mn then min i j else max i j)) (fun w => ?_) (.int _ _) h4
    cases mn
    · simp only [Bool.false_eq_true, if_false] at ho ⊢
      have : (if j > i then j else i) = max i j := by split <;> omega
      simp [execOp, ho, hpa, hpb, resolve, invoke, builtin, Builtin.max_, Builtin.max2, this]
    · simp only [if_true] at ho ⊢
      have : (if j < i then j else i) = min i j := by split <;> omega
      simp [execOp, ho, hpa, hpb, resolve, invoke, builtin, Builtin.min_, Builtin.min2, this]
  · exact h4.elim
end
end Go.Proofs.YtkpijfgananjjaaDoor.Ga
