/- Maps with whole numbers for keys, rows that grow, calls that turn own blocks, values that are decided. -/
import Derived.Test.YtikaonfnaobciaaSxG
import Derived.Maps.AppendAt
import Derived.MapKept
import Derived.ChangeMaps4
import Derived.Laws.StructEq
namespace Go.Proofs.Ytikaonfnaobciaa
open Go.RowKit
set_option linter.unusedVariables false
set_option linter.unusedSimpArgs false

/-! ### Maps -/
abbrev Tab := List (Int × Value × Nat)
def mkEs (T : Tab) : List MapEntry := T.map fun e => { key := .int .i64 e.1, val := e.2.1, born := e.2.2 }
def tabIx : Tab → Int → Nat → Option (Nat × Value)
  | [], _, _ => none
  | e :: r, k, i => if k = e.1 then some (i, e.2.1) else tabIx r k (i + 1)
def tabPut (T : Tab) (k : Int) (v : Value) (c : Nat) : Tab :=
  match tabIx T k 0 with
  | some (i, _) => T.modify i fun e => (k, v, e.2.2)
  | none => T ++ [(k, v, c)]
def tabClock (T : Tab) (k : Int) (c : Nat) : Nat := match tabIx T k 0 with | some _ => c | none => c + 1

theorem tabIx_some : ∀ {T : Tab} {k : Int} {i j : Nat} {v : Value}, tabIx T k i = some (j, v) → i ≤ j ∧ ∃ n, T[j - i]? = some (k, v, n)
  | [], _, _, _, _, h => by cases h
  | e :: r, k, i, j, v, h => by
    simp only [tabIx] at h
    split at h
    · rename_i hk
      simp only [Option.some.injEq, Prod.mk.injEq] at h
      obtain ⟨rfl, rfl⟩ := h
      exact ⟨Nat.le_refl _, e.2.2, by simp [hk]⟩
    · obtain ⟨h1, n, h2⟩ := tabIx_some h
      refine ⟨by omega, n, ?_⟩
      rw [show j - i = (j - (i + 1)) + 1 by omega]
      simpa using h2

def TabOk (T : Tab) (f : Int → Value) : Prop := ∀ e ∈ T, e.2.1 = f e.1
theorem TabOk.nil {f : Int → Value} : TabOk [] f := fun _ h => by cases h
theorem TabOk.get {T : Tab} {f : Int → Value} (h : TabOk T f) {k : Int} {i : Nat} {v : Value} (hi : tabIx T k 0 = some (i, v)) : v = f k := by
  obtain ⟨_, n, h2⟩ := tabIx_some hi
  exact h _ (List.mem_of_getElem? h2)
theorem TabOk.put {T : Tab} {f : Int → Value} (h : TabOk T f) (k : Int) (c : Nat) : TabOk (tabPut T k (f k) c) f := by
  unfold tabPut
  split
  · intro e he
    obtain ⟨j, hj⟩ := List.mem_iff_getElem?.1 he
    rw [List.getElem?_modify] at hj
    cases hq : T[j]? with
    | none => rw [hq] at hj; cases hj
    | some x =>
      rw [hq] at hj
      simp only [Option.map_eq_map, Option.map_some] at hj
      split at hj
      · simp only [Option.some.injEq] at hj; rw [← hj]
      · simp only [Option.some.injEq] at hj; rw [← hj]; exact h x (List.mem_of_getElem? hq)
  · intro e he
    rcases List.mem_append.1 he with he | he
    · exact h e he
    · simp at he; subst he; rfl

section
variable {P : Program}
theorem findNow_tab (q : IntKind) (k : Int) : ∀ (T : Tab) (i : Nat), Instr.findNow (.int q) (.int .i64 k) (mkEs T) i = some (tabIx T k i)
  | [], _ => rfl
  | e :: r, i => by
    have := findNow_tab q k r (i + 1)
    simp only [mkEs] at this
    simp only [mkEs, List.map_cons, Instr.findNow, Instr.sameNow, if_true, tabIx, this]
    by_cases hk : k = e.1
    · simp [hk]
    · rw [show (k == e.1) = false from by simpa using hk]; simp [hk]

theorem run_findKey_tab {kt : TypeId} {q : IntKind} (hk : P.underlying kt = some (.int q)) (k : Int) (T : Tab) (w : World) : (Instr.findKey kt (.int .i64 k) (mkEs T)).run P w = .ok (tabIx T k 0) w := by
  simp [Instr.findKey, run_underlying hk, findNow_tab]

theorem run_checkKey_tab {kt : TypeId} {q : IntKind} (hk : P.underlying kt = some (.int q)) (k : Int) (em : Bool) (w : World) : (Instr.checkKey em 10000 kt (.int .i64 k)).run P w = .ok () w := by
  rw [show (10000 : Nat) = 9999 + 1 from rfl, Instr.checkKey]
  simp [run_underlying hk]

variable {r : Option Nat} {N : Nat} {E : Env} {D : List Nat} {S : Sp} {Q : Exit → Act → World → Prop} {ops : Array Oper} {rest : List Oper}
variable {d : Nat} {op : Op} {ty : TypeId} {pos : String} {aft : Array Edge} {v : Value} {dst : Option Tmp} {g : Option (Nat × Bool)} {K : Act → World → Prop}
variable {w0 : World} {X : List Nat} {L L' : List (Nat × Obj)} {M : List Nat}

theorem Y.lookup {t kt et : TypeId} {q : IntKind} {x i : Operand} {B : Nat} {T : Tab} {c : Nat} {k : Int} {z : Value} [u : UL P t (.map kt et)] [uk : UL P kt (.int q)] [zv : ZV P et z] (hx : ev E x = some (.map (some B))) (hi : ev E i = some (.int .i64 k))
    (hm : (B, Obj.map (mkEs T).toArray c) ∈ L) : Y P N E D ⟨w0, X, L, M⟩ ⟨dst, .lookup t x i true, ty, pos, aft, g⟩ (.tuple #[((tabIx T k 0).map (·.2)).getD z, .bool (decide ((tabIx T k 0).isSome = true))]) := fun a w ha hw => by
  simp only [execOp, Instr.lookup, ha.ev hx, ha.ev hi, Sem.run_bind, run_UL u.h, Result.andThen_ok, MapKept.run_getObj_map (hw.own _ hm), Sem.run_pure, run_checkKey_tab uk.h, List.toList_toArray, run_findKey_tab uk.h]
  cases hq : tabIx T k 0 with
  | none => simp [run_ZV zv.h]
  | some y => obtain ⟨j, y⟩ := y; simp

theorem run_keyThatStays_int (k : Int) (w : World) : (Instr.keyThatStays (.int .i64 k) (.int .i64 k)).run P w = .ok (.int .i64 k) w := by
  simp [Instr.keyThatStays, Instr.sameBits]

theorem mkEs_get {T : Tab} {i : Nat} {e : Int × Value × Nat} (h : T[i]? = some e) : (mkEs T)[i]? = some { key := .int .i64 e.1, val := e.2.1, born := e.2.2 } := by simp [mkEs, h]

theorem St.mapUpdate {t kt et : TypeId} {q : IntKind} {x i y : Operand} {B : Nat} {T : Tab} {c : Nat} {k : Int} [u : UL P t (.map kt et)] [uk : UL P kt (.int q)] (hx : ev E x = some (.map (some B))) (hi : ev E i = some (.int .i64 k)) (hy : ev E y = some v)
    (hr : Rep B (.map (mkEs T).toArray c) (.map (mkEs (tabPut T k v c)).toArray (tabClock T k c)) L L') (h : St N E D ⟨w0, X, L', M⟩ K) :
    St N E D ⟨w0, X, L, M⟩ (Op1 P r ⟨none, .mapUpdate t x i y, ty, pos, aft, g⟩ K) := fun a w ha hw => by
  have hb := hw.own _ hr.mem
  have hrun : (execOp a.eval ⟨none, .mapUpdate t x i y, ty, pos, aft, g⟩).run P w = .ok .skip (w.putObj B (.map (mkEs (tabPut T k v c)).toArray (tabClock T k c))) := by
    simp only [execOp, Instr.mapUpdate, ha.ev hx, ha.ev hi, ha.ev hy, Sem.run_bind, run_UL u.h, Result.andThen_ok, MapKept.run_getObj_map hb, run_checkKey_tab uk.h, List.toList_toArray, run_findKey_tab uk.h]
    unfold tabPut tabClock
    cases hq : tabIx T k 0 with
    | none => simp [MapKept.run_setObj_map _ hb, World.putObj, mkEs]
    | some y =>
      obtain ⟨j, y⟩ := y
      obtain ⟨_, n, hn⟩ := tabIx_some hq
      have hg := mkEs_get hn
      simp only [Nat.sub_zero] at hg
      simp only [List.getElem?_toArray, hg, Option.map_some, Option.getD_some, run_keyThatStays_int, MapKept.run_setObj_map _ hb, Result.andThen_ok, World.putObj, Sem.run_bind, Sem.run_pure]
      simp only [mkEs, List.modify_toArray]
      have hmod : ∀ (l : Tab) (j : Nat), (l.map fun e => ({ key := .int .i64 e.1, val := e.2.1, born := e.2.2 } : MapEntry)).modify j (fun e => { key := .int .i64 k, val := v, born := e.born }) = (l.modify j fun e => (k, v, e.2.2)).map fun e => ({ key := .int .i64 e.1, val := e.2.1, born := e.2.2 } : MapEntry) := fun l => by
        induction l with
        | nil => intro j; cases j <;> rfl
        | cons e l ih =>
          intro j
          cases j with
          | zero => rfl
          | succ j => simp [List.modify_succ_cons, ih j]
      rw [hmod]
  unfold Op1
  rw [hrun]
  exact h _ _ (ha.put_none undef) (hw.put hr rfl)

theorem St.makeMap {t : TypeId} (hd : Nat.blt d N = true) (h : ∀ B, St N ((d, .map (some B)) :: E) D ⟨w0, X, (B, .map (mkEs []).toArray 0) :: L, M⟩ K) :
    St N E D ⟨w0, X, L, M⟩ (Op1 P r ⟨some d, .makeMap t none, ty, pos, aft, g⟩ K) := fun a w ha hw => by
  have hrun : (execOp a.eval ⟨some d, .makeMap t none, ty, pos, aft, g⟩).run P w = .ok (.value (.map (some w.heap.size))) (w.alloc (.map #[] 0)) := by
    simp [execOp, Instr.makeMap]
  unfold Op1
  rw [hrun]
  exact h _ _ _ (ha.put _ (by simpa using hd)) (hw.alloc _)

/-! ### Values that are decided -/
section
variable {p : Prop} [Decidable p] {φ : Act → World → Prop}
theorem St.dec_t (hp : p) (h : St N ((d, .bool true) :: E) D S φ) : St N ((d, .bool (decide p)) :: E) D S φ := by rw [decide_eq_true hp]; exact h
theorem St.dec_f (hp : ¬ p) (h : St N ((d, .bool false) :: E) D S φ) : St N ((d, .bool (decide p)) :: E) D S φ := by rw [decide_eq_false hp]; exact h
theorem St.dec (ht : p → St N ((d, .bool true) :: E) D S φ) (hf : ¬ p → St N ((d, .bool false) :: E) D S φ) : St N ((d, .bool (decide p)) :: E) D S φ := by
  by_cases hp : p
  · exact St.dec_t hp (ht hp)
  · exact St.dec_f hp (hf hp)
variable {S0 : Sp} {G : Act → World → Prop} {n f k : Nat} {l : List Oper} {listed : Array Bool}
theorem GSt.dec_t (hp : p) (h : GSt N ((d, .bool true) :: E) D S P r S0 l n G f listed k) : GSt N ((d, .bool (decide p)) :: E) D S P r S0 l n G f listed k := by rw [decide_eq_true hp]; exact h
theorem GSt.dec_f (hp : ¬ p) (h : GSt N ((d, .bool false) :: E) D S P r S0 l n G f listed k) : GSt N ((d, .bool (decide p)) :: E) D S P r S0 l n G f listed k := by rw [decide_eq_false hp]; exact h
theorem GSt.dec (ht : p → GSt N ((d, .bool true) :: E) D S P r S0 l n G f listed k) (hf : ¬ p → GSt N ((d, .bool false) :: E) D S P r S0 l n G f listed k) : GSt N ((d, .bool (decide p)) :: E) D S P r S0 l n G f listed k := by
  by_cases hp : p
  · exact GSt.dec_t hp (ht hp)
  · exact GSt.dec_f hp (hf hp)
end

theorem Y.neqd {k : IntKind} {t t' : TypeId} {x y : Operand} {m n : Int} (hx : ev E x = some (.int k m)) (hy : ev E y = some (.int k n)) : Y P N E D S ⟨dst, .binOp .neq t x y t', ty, pos, aft, g⟩ (.bool (decide (m ≠ n))) := by
  have := Y.neq_int (P := P) (N := N) (D := D) (S := S) (t := t) (t' := t') (dst := dst) (ty := ty) (pos := pos) (aft := aft) (g := g) hx hy
  rwa [← decide_not] at this

/-- Two structs are compared. -/
class EQ (P : Program) (t : TypeId) (xs ys : List Value) (p : outParam Prop) (dp : outParam (Decidable p)) : Prop where
  h : ∀ w, (Op.equalIn 10000 t (.agg xs.toArray) (.agg ys.toArray)).run P w = .ok (@decide p dp) w
  gd : P.eqGuardType P.depth t = false
theorem Y.eql_agg {t t' : TypeId} {x y : Operand} {xs ys : List Value} {p : Prop} {dp : Decidable p} [e : EQ P t xs ys p dp] (hx : ev E x = some (.agg xs.toArray)) (hy : ev E y = some (.agg ys.toArray)) : Y P N E D S ⟨dst, .binOp .eql t x y t', ty, pos, aft, g⟩ (.bool (@decide p dp)) := fun a w ha _ => by
  simp only [execOp, ha.ev hx, ha.ev hy, Sem.run_bind, run_eqGuard_agg w _ t _ _ _ _ e.gd, Result.andThen_ok, run_eql_struct, e.h]
  simp
theorem Y.neq_agg {t t' : TypeId} {x y : Operand} {xs ys : List Value} {p : Prop} {dp : Decidable p} [e : EQ P t xs ys p dp] (hx : ev E x = some (.agg xs.toArray)) (hy : ev E y = some (.agg ys.toArray)) : Y P N E D S ⟨dst, .binOp .neq t x y t', ty, pos, aft, g⟩ (.bool (decide (¬ p))) := fun a w ha _ => by
  simp only [execOp, ha.ev hx, ha.ev hy, Sem.run_bind, run_eqGuard_agg w _ t _ _ _ _ e.gd, Result.andThen_ok, run_neq_struct, e.h]
  simp

/-! ### Calls that turn own blocks, or hand new ones back -/
theorem St.call_own {ι : Type} {A Lc : List (Nat × Obj)} {Lx : ι → List (Nat × Obj)} {vx : ι → Value} {f : Operand} {k : Nat} {fn : Func} {fs cs vs : List Value} {args : List Operand} {ats : Array TypeId}
    (hfx : ev E f = some (.func (.func k) fs.toArray cs.toArray)) (hargs : Args E args vs) [FN P k fn] (hperm : L.Perm (A ++ Lc))
    (hc : ∀ w, Kp X w0 w → Wd ⟨w, Lc.map (·.1), Lc, []⟩ w → Calls P k (fs ++ vs ++ cs).toArray w fun e w' => ∃ x, e = .returned (vx x) ∧ Wd ⟨w, Lc.map (·.1), Lx x, []⟩ w')
    (hd : Nat.blt d N = true) (h : ∀ x, St N ((d, vx x) :: E) D ⟨w0, X, A ++ Lx x, M⟩ K) :
    St N E D ⟨w0, X, L, M⟩ (Op1 P r ⟨some d, .call { callee := .value f, args := args.toArray, argTypes := ats }, ty, pos, aft, g⟩ K) :=
  St.call_gen hfx hargs (R := fun w e w' => ∃ x, e = .returned (vx x) ∧ Wd ⟨w, Lc.map (·.1), Lx x, []⟩ w')
    (fun w hw => callsIn_FR (hc w hw.kp (hw.perm hperm).enter))
    fun w e w' hw ⟨x, he, hk⟩ => ⟨vx x, he, fun _ ha => h x _ w' (ha.put _ (by simpa using hd)) ((hw.perm hperm).frame (fun z hz => hz) hk)⟩

/-! ### Rows -/
inductive RowOk (e size : Nat) : Value → Nat → List Value → List (Nat × Obj) → Prop
  | nil : RowOk e size (.slice none 0 0) 0 [] []
  | row {b n cap : Nat} {cur : List Value} (hlen : cur.length = cap * size) (hn : n ≤ cap) (hcap : cap ≤ maxLen) : RowOk e size (.slice (some ⟨b, 0, none⟩) n cap) n (cur.take (n * size)) [(b, .cells cur.toArray e (0, 0))]

theorem St.append {A Lr : List (Nat × Obj)} {t e size bytes n m c : Nat} {z vr : Value} {xs news : List Value} {a : Addr} {x y : Operand} {T : Nat} [u : UL P t (.slice e)] [sz : SZ P e size] [bt : BY P e bytes] [zv : ZV P e z]
    (hx : ev E x = some vr) (hy : ev E y = some (.slice (some a) m c)) (hrow : RowOk e size vr n xs Lr) (hperm : L.Perm (A ++ Lr)) (hzs : z.cells.size = size) (hsz : 0 < size)
    (hl : news.length = m * size) (hnews : ∀ w, Wd ⟨w0, X, L, M⟩ w → ∀ j u, news[j]? = some u → w.cell? (a.add j) = some u) (h1 : ∀ u ∈ news, u.oneCell' = true)
    (hbytes : (n + m) * bytes ≤ 140737488355328) (hmax : n + m ≤ 140737488355328) (hd : Nat.blt d N = true)
    (h : ∀ v' Lr', RowOk e size v' (n + m) (xs ++ news) Lr' → St N ((d, v') :: E) D ⟨w0, X, A ++ Lr', M⟩ K) :
    St N E D ⟨w0, X, L, M⟩ (Op1 P r ⟨some d, .call { callee := .builtin .append, args := #[x, y], argTypes := #[t, t] }, ty, pos, aft, g⟩ K) := fun ac w ha hw => by
  have hwp := hw.perm hperm
  have hi : ∃ i, P.info? e = some i ∧ i.size = size ∧ i.bytes = bytes ∧ i.zero = some z := by
    have h1 := sz.h; have h2 := bt.h; have h3 := zv.h
    cases hq : P.info? e with
    | none => simp [hq] at h1
    | some i => simp [hq] at h1 h2 h3; exact ⟨i, rfl, h1, h2, h3⟩
  obtain ⟨i, hi, his, hib, hiz⟩ := hi
  have hown : w.ownsRow 0 e size vr n xs := by
    cases hrow with
    | nil => exact ⟨by simp, .inl ⟨rfl, rfl⟩⟩
    | @row b n cap cur hlen hn hcap => exact ⟨by rw [List.length_take]; have := Nat.mul_le_mul_right size hn; omega, .inr ⟨b, cap, cur.toArray, rfl, Nat.zero_le _, hwp.own _ (List.mem_append_right _ (.head _)), hn, hcap, by simpa using hlen, by simp⟩⟩
  obtain ⟨v', w', hrun, hrow', hg, _, hob⟩ := run_append_own_at (P := P) (w := w) 0 t ty e i z size bytes u.h hi hiz his hib hzs hsz vr n xs hown a m c news hl (hnews w hw) h1 (by simp only [maxLen]; omega) hbytes (Nat.zero_le _)
  have hexec : (execOp ac.eval ⟨some d, .call { callee := .builtin .append, args := #[x, y], argTypes := #[t, t] }, ty, pos, aft, g⟩).run P w = .ok (.value v') w' := by
    simp only [execOp, resolve]
    simp only [List.map_toArray, List.map_cons, List.map_nil, ha.ev hx, ha.ev hy]
    simp [invoke, builtin, hrun]
  have hkp : Kp (Lr.map (·.1)) w w' := ⟨hg.os, hg.tape, hg.output, hg.size, fun k hk hx => hg.block k hk fun e => by
    cases hrow with
    | nil => cases e
    | row => simp [Value.ownBlock] at e hx; exact hx e⟩
  unfold Op1
  rw [hexec]
  have key : ∃ Lr', RowOk e size v' (n + m) (xs ++ news) Lr' ∧ Wd ⟨w, Lr.map (·.1), Lr', []⟩ w' := by
    obtain ⟨hlen', hcase⟩ := hrow'
    rcases hcase with ⟨rfl, hz⟩ | ⟨b, cap, cur, rfl, _, hb, hn, hcap, hcs, ht⟩
    · have : xs ++ news = [] := List.length_eq_zero_iff.1 (by rw [hlen', hz]; simp)
      rw [hz, this]
      exact ⟨[], .nil, hkp, by simp, by simp, by simp, by simp, by simp, by simp, by simp⟩
    · refine ⟨[(b, .cells cur.toList.toArray e (0, 0))], ht ▸ .row (by simpa using hcs) hn hcap, hkp, ?_, ?_, by simp, by simp, by simp, by simp, by simp [isDef]⟩
      · intro p hp; simp at hp; subst hp; simpa using hb
      · intro p hp hl
        simp at hp; subst hp
        cases hrow with
        | nil => rcases hob with h | h
                 · simp [Value.ownBlock] at h
                 · simp [Value.ownBlock] at h; simp at hl; omega
        | row => rcases hob with h | h
                 · simp [Value.ownBlock] at h; simp [h]
                 · simp [Value.ownBlock] at h; simp at hl; omega
  obtain ⟨Lr', hrow2, hwd⟩ := key
  exact h v' Lr' hrow2 _ w' (ha.put _ (by simpa using hd)) (hwp.frame (fun z hz => hz) hwd)

/-- A row in one go. -/
def zeroRow (n : Nat) (zs : List Value) : List Value := ((Array.range n).map (zs.toArray[· % zs.toArray.size]!)).toList
theorem St.buildSlice {t e sz len : Nat} {z : Value} {zs l : List Value} {ps : List (Nat × Operand)} {pv : List (Nat × Value)} [u : UL P t (.slice e)] [hs : SZ P e sz] [zv : ZV P e z] (hz : z.cells = zs.toArray) (hpos : Nat.blt 0 (len * sz) = true) (hmax : Nat.ble (len * sz) 16777216 = true)
    (hps : Parts E ps pv) (hf : Fills ((List.range len).map fun k => (k * sz, sz)) pv (zeroRow (len * sz) zs) l) (hlt : ∀ p ∈ pv, p.1 < len) (hd : Nat.blt d N = true)
    (h : ∀ b, St N ((d, .slice (some ⟨b, 0, none⟩) len len) :: E) D ⟨w0, X, (b, .cells l.toArray e (0, 0)) :: L, M⟩ K) :
    St N E D ⟨w0, X, L, M⟩ (Op1 P r ⟨some d, .buildSlice t len ps.toArray, ty, pos, aft, g⟩ K) := fun a w ha hw => by
  have hm : ps.toArray.map (fun (i, x) => (i, a.eval x)) = pv.toArray := by rw [List.map_toArray, hps.map ha]
  have h0 : ¬ len * sz = 0 := by simp at hpos; omega
  have h2 : ¬ len * sz > 2 ^ 24 := by simp at hmax; omega
  have hrun : (execOp a.eval ⟨some d, .buildSlice t len ps.toArray, ty, pos, aft, g⟩).run P w = .ok (.value (.slice (some ⟨w.heap.size, 0, none⟩) len len)) (w.alloc (.cells l.toArray e)) := by
    simp only [execOp, Instr.buildSlice, Sem.run_bind, run_UL u.h, run_SZ hs.h, Result.andThen_ok, hm, if_neg h2, if_neg h0, run_ZV zv.h, Sem.run_pure]
    have hfill := hf.fill (place := fun i => some (i * sz, sz)) (fun i x hx => by
      simp only [List.getElem?_map, Option.map_eq_some_iff] at hx
      obtain ⟨k, hk, rfl⟩ := hx
      rcases Nat.lt_or_ge i len with h | h
      · simp [h] at hk; rw [hk]
      · simp [h] at hk)
    simp only [zeroRow, Array.toArray_toList] at hfill
    simp only [hz, hfill, newRow]
    simp
  unfold Op1
  rw [hrun]
  exact h _ _ _ (ha.put _ (by simpa using hd)) (hw.alloc _)
end
end Go.Proofs.Ytikaonfnaobciaa
