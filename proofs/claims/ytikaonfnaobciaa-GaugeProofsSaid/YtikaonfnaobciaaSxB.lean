/- What single operations yield, by what the temporaries hold. -/
import Derived.Test.YtikaonfnaobciaaSxA
namespace Go.Proofs.Ytikaonfnaobciaa
open Go.RowKit

def nodef (o : Op) : Bool := match o with | .defer _ => false | _ => true
theorem semAt_nodef {r : Option Nat} {ρ : Operand → Value} {o : Oper} (h : nodef o.op = true) : o.semAt r ρ = execOp ρ o := by
  cases r with
  | none => rfl
  | some l => exact Oper.semAt_some l ρ o (fun c hc => by rw [hc] at h; cases h)

/-- The operation yields v and leaves the world alone, in whatever frame and world of the state. -/
def Y (P : Program) (N : Nat) (E : Env) (D : List Nat) (S : Sp) (o : Oper) (v : Value) : Prop :=
  ∀ a w, Fr N E D a → Wd S w → (execOp a.eval o).run P w = .ok (.value v) w

def isB (u : Value) (b : Bool) : Bool := match u with | .bool c => c == b | _ => false

section
variable {P : Program} {r : Option Nat} {N : Nat} {E : Env} {D : List Nat} {S : Sp} {Q : Exit → Act → World → Prop} {ops : Array Oper} {rest : List Oper}
variable {d : Nat} {op : Op} {ty : TypeId} {pos : String} {aft : Array Edge} {v : Value} {g : Option (Nat × Bool)}

theorem FR_about (o : Oper) (w : World) (ρ : Operand → Value) : ∀ f, o.about P w ρ = some f → (FR r).fn f := fun _ _ => trivial

/-- One operation, carried out; then K. -/
def Op1 (P : Program) (r : Option Nat) (o : Oper) (K : Act → World → Prop) (a : Act) (w : World) : Prop :=
  match (execOp a.eval o).run P w with
  | .ok (.value v) w' => K (a.put o.dst v) w'
  | .ok .skip w' => K (a.put o.dst undef) w'
  | .ok (.enter f args) w' => CallsIn (FR none) 0 P f args w' fun e w'' => ∃ v, e = .returned v ∧ K (a.put o.dst v) w''
  | .ok (.round l f tmps assign body) w' => RoundIn (FR r) 0 P l f tmps assign body w' fun e w'' => ∃ v, e = .returned v ∧ K (a.put o.dst v) w''
  | _ => False

theorem Op1.wpIn {o : Oper} {K : Act → World → Prop} {a : Act} {w : World} (hn : nodef o.op = true) (h : Op1 P r o K a w) : o.wpIn (FR r) 0 P a w K Q := by
  refine ⟨FR_about _ _ _, ?_⟩
  rw [semAt_nodef hn]
  unfold Op1 at h
  generalize (execOp a.eval o).run P w = x at h
  cases x with
  | halt _ _ => exact h.elim
  | ok x w' =>
    cases x with
    | value v => exact h
    | skip => exact h
    | enter f args =>
      refine ⟨fun h => (by cases h), CallsIn.mono (show CallsIn (FR r) 0 P f args w' _ from h) ?_⟩
      rintro e w'' ⟨v, rfl, hk⟩
      exact hk
    | round l f tmps assign body =>
      refine ⟨fun h => (by cases h), RoundIn.mono h ?_⟩
      rintro e w'' ⟨v, rfl, hk⟩
      exact hk
    | _ => exact h.elim

variable {K : Act → World → Prop}

theorem St.opr {o : Oper} (hg : o.guard = none) (hn : nodef o.op = true) (h : St N E D S (Op1 P r o (wpListIn (FR r) 0 P ops Q rest))) : St N E D S (wpListIn (FR r) 0 P ops Q (o :: rest)) := fun a w ha hw => by
  refine wpListIn_step fun K hK => ?_
  rw [show Region.wanted o (yielded ops a.tmps) = true by simp [Region.wanted, hg], if_pos rfl]
  exact Oper.wpIn_mono hK (Op1.wpIn hn (h a w ha hw))

theorem St.val (hy : Y P N E D S ⟨some d, op, ty, pos, aft, g⟩ v) (hd : Nat.blt d N = true) (h : St N ((d, v) :: E) D S K) : St N E D S (Op1 P r ⟨some d, op, ty, pos, aft, g⟩ K) := fun a w ha hw => by
  unfold Op1
  rw [hy a w ha hw]
  exact h _ w (ha.put v (by simpa using hd)) hw

theorem wanted_of {a : Act} {j t : Nat} {want : Bool} {u : Value} (ha : Fr N E D a) (hj : (ops[j]?).bind (·.dst) = some t) (hu : look E t = some u) (o : Oper) (ho : o.guard = some (j, want)) :
    Region.wanted o (yielded ops a.tmps) = isB u want := by
  simp only [Region.wanted, ho, yielded, hj, Option.bind_some, ha.ok t u hu]
  cases u <;> simp [isB]

theorem St.opG {o : Oper} {j t : Nat} {want : Bool} {u : Value} (hg : o.guard = some (j, want)) (hj : (ops[j]?).bind (·.dst) = some t) (hu : look E t = some u) (hb : isB u want = true) (hn : nodef o.op = true)
    (h : St N E D S (Op1 P r o (wpListIn (FR r) 0 P ops Q rest))) : St N E D S (wpListIn (FR r) 0 P ops Q (o :: rest)) := fun a w ha hw => by
  refine wpListIn_step fun K hK => ?_
  rw [wanted_of ha hj hu _ hg, hb, if_pos rfl]
  exact Oper.wpIn_mono hK (Op1.wpIn hn (h a w ha hw))

theorem St.skipG {j t : Nat} {want : Bool} {u : Value} (hj : (ops[j]?).bind (·.dst) = some t) (hu : look E t = some u) (hb : isB u want = false) (hd : Nat.blt d N = true)
    (h : St N ((d, undef) :: E) D S (wpListIn (FR r) 0 P ops Q rest)) : St N E D S (wpListIn (FR r) 0 P ops Q (⟨some d, op, ty, pos, aft, some (j, want)⟩ :: rest)) := fun a w ha hw => by
  refine wpListIn_step fun K hK => ?_
  rw [wanted_of ha hj hu _ rfl, hb, if_neg (by simp)]
  exact ⟨FR_about _ _ _, hK _ _ (h _ w (ha.put undef (by simpa using hd)) hw)⟩

theorem St.skipG0 {j t : Nat} {want : Bool} {u : Value} (hj : (ops[j]?).bind (·.dst) = some t) (hu : look E t = some u) (hb : isB u want = false)
    (h : St N E D S (wpListIn (FR r) 0 P ops Q rest)) : St N E D S (wpListIn (FR r) 0 P ops Q (⟨none, op, ty, pos, aft, some (j, want)⟩ :: rest)) := fun a w ha hw => by
  refine wpListIn_step fun K hK => ?_
  rw [wanted_of ha hj hu _ rfl, hb, if_neg (by simp)]
  exact ⟨FR_about _ _ _, hK _ _ (h _ w (ha.put_none undef) hw)⟩

/-! ### Single operations -/
theorem wrapI {x : Int} (h : -9223372036854775808 ≤ x ∧ x ≤ 9223372036854775807) : IntKind.i64.wrap x = x := by
  rw [IntKind.wrap_i64]; omega
variable {dst : Option Tmp}

theorem Y.move {x : Operand} (h : ev E x = some v) : Y P N E D S ⟨dst, .move x, ty, pos, aft, g⟩ v := fun a w ha _ => by simp [execOp, ha.ev h]
theorem Y.assign {x : Operand} (h : ev E x = some v) : Y P N E D S ⟨dst, .assign x, ty, pos, aft, g⟩ v := fun a w ha _ => by simp [execOp, ha.ev h]
theorem Y.pick_true {c x y : Operand} (hc : ev E c = some (.bool true)) (h : ev E x = some v) : Y P N E D S ⟨dst, .pick c x y, ty, pos, aft, g⟩ v := fun a w ha _ => by simp [execOp, ha.ev h, ha.ev hc, asBool]
theorem Y.pick_false {c x y : Operand} (hc : ev E c = some (.bool false)) (h : ev E y = some v) : Y P N E D S ⟨dst, .pick c x y, ty, pos, aft, g⟩ v := fun a w ha _ => by simp [execOp, ha.ev h, ha.ev hc, asBool]
theorem Y.pick_bool {c x y : Operand} {b p q : Bool} (hc : ev E c = some (.bool b)) (hx : ev E x = some (.bool p)) (hy : ev E y = some (.bool q)) : Y P N E D S ⟨dst, .pick c x y, ty, pos, aft, g⟩ (.bool (bif b then p else q)) := fun a w ha _ => by
  cases b <;> simp [execOp, ha.ev hx, ha.ev hy, ha.ev hc, asBool]
theorem Y.nilCheck {x : Operand} {p : Addr} (h : ev E x = some (.pointer (some p))) : Y P N E D S ⟨dst, .nilCheck x, ty, pos, aft, g⟩ (.pointer (some p)) := fun a w ha _ => by simp [execOp, ha.ev h]
theorem Y.nilCheck_func {x : Operand} {f : FuncId} {fs cs : Array Value} (h : ev E x = some (.func (.func f) fs cs)) : Y P N E D S ⟨dst, .nilCheck x, ty, pos, aft, g⟩ (.func (.func f) fs cs) := fun a w ha _ => by simp [execOp, ha.ev h]
theorem Y.not {t : TypeId} {x : Operand} {b : Bool} (h : ev E x = some (.bool b)) : Y P N E D S ⟨dst, .unOp .not t x, ty, pos, aft, g⟩ (.bool (!b)) := fun a w ha _ => by simp only [execOp, ha.ev h]; simp [go_sem]
theorem Y.extract {x : Operand} {i : Nat} {vs : Array Value} (h : ev E x = some (.tuple vs)) (hi : vs[i]? = some v) : Y P N E D S ⟨dst, .extract x i, ty, pos, aft, g⟩ v := fun a w ha _ => by simp [execOp, ha.ev h, Instr.extract, hi]
theorem Y.makeFunc {fn : Fn} {fs cs : Array Operand} {fv cv : Array Value} (hf : ∀ a, Fr N E D a → fs.map a.eval = fv) (hc : ∀ a, Fr N E D a → cs.map a.eval = cv) :
    Y P N E D S ⟨dst, .makeFunc fn fs cs, ty, pos, aft, g⟩ (.func fn fv cv) := fun a w ha _ => by simp [execOp, Instr.makeFunc, hf a ha, hc a ha]
theorem Y.neg {k : IntKind} {t : TypeId} {x : Operand} {n : Int} (h : ev E x = some (.int k n)) : Y P N E D S ⟨dst, .unOp .neg t x, ty, pos, aft, g⟩ (.int k (k.wrap (-n))) := fun a w ha _ => by simp only [execOp, ha.ev h]; simp [go_sem]
theorem Y.add {k : IntKind} {t t' : TypeId} {x y : Operand} {m n : Int} (hx : ev E x = some (.int k m)) (hy : ev E y = some (.int k n)) : Y P N E D S ⟨dst, .binOp .add t x y t', ty, pos, aft, g⟩ (.int k (k.wrap (m + n))) := fun a w ha _ => by simp only [execOp, ha.ev hx, ha.ev hy]; simp [go_sem]
theorem Y.add_ok {t t' : TypeId} {x y : Operand} {m n : Int} (hx : ev E x = some (.int .i64 m)) (hy : ev E y = some (.int .i64 n)) (h : -9223372036854775808 ≤ m + n ∧ m + n ≤ 9223372036854775807) : Y P N E D S ⟨dst, .binOp .add t x y t', ty, pos, aft, g⟩ (.int .i64 (m + n)) := fun a w ha hw => by rw [Y.add hx hy a w ha hw, wrapI h]
theorem Y.sub {k : IntKind} {t t' : TypeId} {x y : Operand} {m n : Int} (hx : ev E x = some (.int k m)) (hy : ev E y = some (.int k n)) : Y P N E D S ⟨dst, .binOp .sub t x y t', ty, pos, aft, g⟩ (.int k (k.wrap (m - n))) := fun a w ha _ => by simp only [execOp, ha.ev hx, ha.ev hy]; simp [go_sem]
theorem Y.sub_ok {t t' : TypeId} {x y : Operand} {m n : Int} (hx : ev E x = some (.int .i64 m)) (hy : ev E y = some (.int .i64 n)) (h : -9223372036854775808 ≤ m - n ∧ m - n ≤ 9223372036854775807) : Y P N E D S ⟨dst, .binOp .sub t x y t', ty, pos, aft, g⟩ (.int .i64 (m - n)) := fun a w ha hw => by rw [Y.sub hx hy a w ha hw, wrapI h]
theorem Y.mul {k : IntKind} {t t' : TypeId} {x y : Operand} {m n : Int} (hx : ev E x = some (.int k m)) (hy : ev E y = some (.int k n)) : Y P N E D S ⟨dst, .binOp .mul t x y t', ty, pos, aft, g⟩ (.int k (k.wrap (m * n))) := fun a w ha _ => by simp only [execOp, ha.ev hx, ha.ev hy]; simp [go_sem]
theorem Y.mul_ok {t t' : TypeId} {x y : Operand} {m n : Int} (hx : ev E x = some (.int .i64 m)) (hy : ev E y = some (.int .i64 n)) (h : -9223372036854775808 ≤ m * n ∧ m * n ≤ 9223372036854775807) : Y P N E D S ⟨dst, .binOp .mul t x y t', ty, pos, aft, g⟩ (.int .i64 (m * n)) := fun a w ha hw => by rw [Y.mul hx hy a w ha hw, wrapI h]
theorem Y.quo {t t' : TypeId} {x y : Operand} {m n : Int} (hx : ev E x = some (.int .i64 m)) (hy : ev E y = some (.int .i64 n)) (h0 : n ≠ 0) : Y P N E D S ⟨dst, .binOp .quo t x y t', ty, pos, aft, g⟩ (.int .i64 (IntKind.i64.wrap (m.tdiv n))) := fun a w ha _ => by simp only [execOp, ha.ev hx, ha.ev hy]; simp [go_sem, h0]
theorem Y.quo_ok {t t' : TypeId} {x y : Operand} {m n : Int} (hx : ev E x = some (.int .i64 m)) (hy : ev E y = some (.int .i64 n)) (h : 0 ≤ m ∧ 0 < n ∧ m ≤ 9223372036854775807) : Y P N E D S ⟨dst, .binOp .quo t x y t', ty, pos, aft, g⟩ (.int .i64 (m / n)) := fun a w ha hw => by
  rw [Y.quo hx hy (by omega) a w ha hw, Int.tdiv_eq_ediv_of_nonneg h.1, wrapI ⟨by have := Int.ediv_nonneg h.1 (by omega : 0 ≤ n); omega, by have := Int.ediv_le_self n h.1; omega⟩]
theorem Y.rem {t t' : TypeId} {x y : Operand} {m n : Int} (hx : ev E x = some (.int .i64 m)) (hy : ev E y = some (.int .i64 n)) (h0 : n ≠ 0) : Y P N E D S ⟨dst, .binOp .rem t x y t', ty, pos, aft, g⟩ (.int .i64 (m.tmod n)) := fun a w ha _ => by simp only [execOp, ha.ev hx, ha.ev hy]; simp [go_sem, h0]
theorem Y.rem_ok {t t' : TypeId} {x y : Operand} {m n : Int} (hx : ev E x = some (.int .i64 m)) (hy : ev E y = some (.int .i64 n)) (h : 0 ≤ m ∧ 0 < n) : Y P N E D S ⟨dst, .binOp .rem t x y t', ty, pos, aft, g⟩ (.int .i64 (m % n)) := fun a w ha hw => by
  rw [Y.rem hx hy (by omega) a w ha hw, Int.tmod_eq_emod_of_nonneg h.1]
theorem Y.lss {t t' : TypeId} {x y : Operand} {m n : Int} (hx : ev E x = some (.int .i64 m)) (hy : ev E y = some (.int .i64 n)) : Y P N E D S ⟨dst, .binOp .lss t x y t', ty, pos, aft, g⟩ (.bool (decide (m < n))) := fun a w ha _ => by simp only [execOp, ha.ev hx, ha.ev hy]; simp [go_sem]
theorem Y.leq {t t' : TypeId} {x y : Operand} {m n : Int} (hx : ev E x = some (.int .i64 m)) (hy : ev E y = some (.int .i64 n)) : Y P N E D S ⟨dst, .binOp .leq t x y t', ty, pos, aft, g⟩ (.bool (decide (m ≤ n))) := fun a w ha _ => by simp only [execOp, ha.ev hx, ha.ev hy]; simp [go_sem]
theorem Y.gtr {t t' : TypeId} {x y : Operand} {m n : Int} (hx : ev E x = some (.int .i64 m)) (hy : ev E y = some (.int .i64 n)) : Y P N E D S ⟨dst, .binOp .gtr t x y t', ty, pos, aft, g⟩ (.bool (decide (n < m))) := fun a w ha _ => by simp only [execOp, ha.ev hx, ha.ev hy]; simp [go_sem]
theorem Y.geq {t t' : TypeId} {x y : Operand} {m n : Int} (hx : ev E x = some (.int .i64 m)) (hy : ev E y = some (.int .i64 n)) : Y P N E D S ⟨dst, .binOp .geq t x y t', ty, pos, aft, g⟩ (.bool (decide (n ≤ m))) := fun a w ha _ => by simp only [execOp, ha.ev hx, ha.ev hy]; simp [go_sem]

/-! ### What the program's tables tell of a type -/
class UL (P : Program) (t : TypeId) (d : outParam TypeDesc) : Prop where
  h : P.underlying t = some d
class AG (P : Program) (t : TypeId) (b : outParam Bool) : Prop where
  h : ∃ d, P.underlying t = some d ∧ (match d with | .struct _ | .array _ _ => true | _ => false) = b
class SZ (P : Program) (t : TypeId) (n : outParam Nat) : Prop where
  h : (P.info? t).map (·.size) = some n
class ZV (P : Program) (t : TypeId) (z : outParam Value) : Prop where
  h : (P.info? t).map (·.zero) = some (some z)
class BY (P : Program) (t : TypeId) (n : outParam Nat) : Prop where
  h : (P.info? t).map (·.bytes) = some n

/-- Field f of the struct t lies at off, takes n cells, is (or is not) an aggregate. -/
class FD (P : Program) (t : TypeId) (f : Nat) (off n : outParam Nat) (ag : outParam Bool) : Prop where
  h : ∃ fs fd, P.underlying t = some (.struct fs) ∧ fs[f]? = some fd ∧ fd.offset = off ∧ (P.info? fd.type).map (·.size) = some n ∧ 0 < n ∧ AG P fd.type ag

theorem run_UL {t : TypeId} {u : TypeDesc} (h : P.underlying t = some u) (w : World) : (underlying t).run P w = .ok u w := run_underlying h w
theorem run_SZ {t : TypeId} {n : Nat} (h : (P.info? t).map (·.size) = some n) (w : World) : (sizeOf t).run P w = .ok n w := by
  cases hq : P.info? t with
  | none => simp [hq] at h
  | some i => simp [hq] at h; simp [sizeOf, typeInfo, hq, h]
theorem run_ZV {t : TypeId} {z : Value} (h : (P.info? t).map (·.zero) = some (some z)) (w : World) : (zeroValue t).run P w = .ok z w := by
  cases hq : P.info? t with
  | none => simp [hq] at h
  | some i => simp [hq] at h; simp [zeroValue, typeInfo, hq, h]

theorem run_isAgg {t : TypeId} {b : Bool} (h : AG P t b) (w : World) : (isAgg t).run P w = .ok b w := by
  obtain ⟨u, h1, h2⟩ := h.h
  unfold isAgg; rw [Sem.run_bind, run_underlying h1 w]; subst h2; cases u <;> simp

theorem Y.eql_int {k : IntKind} {t t' : TypeId} {x y : Operand} {m n : Int} (hx : ev E x = some (.int k m)) (hy : ev E y = some (.int k n)) : Y P N E D S ⟨dst, .binOp .eql t x y t', ty, pos, aft, g⟩ (.bool (decide (m = n))) := fun a w ha _ => by
  simp only [execOp, ha.ev hx, ha.ev hy]; simp [go_sem]; rfl
theorem Y.neq_int {k : IntKind} {t t' : TypeId} {x y : Operand} {m n : Int} (hx : ev E x = some (.int k m)) (hy : ev E y = some (.int k n)) : Y P N E D S ⟨dst, .binOp .neq t x y t', ty, pos, aft, g⟩ (.bool (!decide (m = n))) := fun a w ha _ => by
  simp only [execOp, ha.ev hx, ha.ev hy]; simp [go_sem]; rfl
theorem Y.eql_bool {t t' : TypeId} {x y : Operand} {m n : Bool} [u : UL P t .bool] (hx : ev E x = some (.bool m)) (hy : ev E y = some (.bool n)) : Y P N E D S ⟨dst, .binOp .eql t x y t', ty, pos, aft, g⟩ (.bool (m == n)) := fun a w ha _ => by
  simp only [execOp, ha.ev hx, ha.ev hy]; simp [go_sem, u.h]
theorem Y.neq_bool {t t' : TypeId} {x y : Operand} {m n : Bool} [u : UL P t .bool] (hx : ev E x = some (.bool m)) (hy : ev E y = some (.bool n)) : Y P N E D S ⟨dst, .binOp .neq t x y t', ty, pos, aft, g⟩ (.bool (!(m == n))) := fun a w ha _ => by
  simp only [execOp, ha.ev hx, ha.ev hy]; simp [go_sem, u.h]

theorem Addr.add_none (b o n : Nat) : (⟨b, o, none⟩ : Addr).add n = ⟨b, o + n, none⟩ := by
  unfold Addr.add; split <;> simp_all

theorem Y.fieldAddr {t : TypeId} {x : Operand} {f off n : Nat} {ag : Bool} {b o : Nat} (hx : ev E x = some (.pointer (some ⟨b, o, none⟩))) [u : FD P t f off n ag] : Y P N E D S ⟨dst, .fieldAddr t x f, ty, pos, aft, g⟩ (.pointer (some ⟨b, o + off, none⟩)) := fun a w ha _ => by
  obtain ⟨fs, fd, hu, hf, rfl, hz, hn, _⟩ := u.h
  have hne : n ≠ 0 := by omega
  simp only [execOp, ha.ev hx, Instr.fieldAt, Sem.run_bind, run_UL hu, Result.andThen_ok]
  simp [hf, Instr.sureAddr, fieldPlace, run_SZ hz, hne, Addr.add_none]

theorem Y.field {t : TypeId} {x : Operand} {f off n : Nat} {cs : List Value} (hx : ev E x = some (.agg cs.toArray)) [u : FD P t f off n false] (hv : cs[off]? = some v) : Y P N E D S ⟨dst, .field t x f, ty, pos, aft, g⟩ v := fun a w hfr _ => by
  obtain ⟨fs, fd, hu, hf, rfl, hz, hn, hag⟩ := u.h
  simp only [execOp, hfr.ev hx, Instr.field, Sem.run_bind, run_UL hu, Result.andThen_ok]
  simp [hf, asAgg, part, run_isAgg hag, hv]
theorem Y.field_agg {t : TypeId} {x : Operand} {f off n : Nat} {cs ws : List Value} (hx : ev E x = some (.agg cs.toArray)) [u : FD P t f off n true] (hv : (cs.drop off).take n = ws) : Y P N E D S ⟨dst, .field t x f, ty, pos, aft, g⟩ (.agg ws.toArray) := fun a w hfr _ => by
  obtain ⟨fs, fd, hu, hf, rfl, hz, hn, hag⟩ := u.h
  simp only [execOp, hfr.ev hx, Instr.field, Sem.run_bind, run_UL hu, Result.andThen_ok]
  simp [hf, asAgg, part, run_isAgg hag, run_SZ hz]
  rw [← hv]

/-- An element's address in a slice, or in an array behind a pointer. -/
theorem Y.indexSlice {t e : TypeId} {x i : Operand} {k : IntKind} {b o len cap n : Nat} {m : Int} [u : UL P t (.slice e)] (hx : ev E x = some (.slice (some ⟨b, o, none⟩) len cap)) (hi : ev E i = some (.int k m))
    [z : SZ P e n] (h : 0 ≤ m ∧ m < len) : Y P N E D S ⟨dst, .indexAddr t x i, ty, pos, aft, g⟩ (.pointer (some ⟨b, o + m.toNat * n, none⟩)) := fun a w hfr _ => by
  simp only [execOp, hfr.ev hx, hfr.ev hi, Instr.indexAt, asIntOf, Sem.run_bind, Sem.run_pure, run_UL u.h, Result.andThen_ok]
  simp [h, run_SZ z.h, Addr.add_none]
theorem Y.indexSliceK {t e : TypeId} {x i : Operand} {k : IntKind} {b o len cap n : Nat} {m : Nat} [u : UL P t (.slice e)] (hx : ev E x = some (.slice (some ⟨b, o, none⟩) len cap)) (hi : ev E i = some (.int k (m : Int)))
    [z : SZ P e n] (h : m < len) : Y P N E D S ⟨dst, .indexAddr t x i, ty, pos, aft, g⟩ (.pointer (some ⟨b, o + m * n, none⟩)) := fun a w hfr hw => by
  have := Y.indexSlice (P := P) (e := e) (n := n) (dst := dst) (ty := ty) (pos := pos) (aft := aft) (g := g) (t := t) (x := x) (i := i) hx hi (by omega) a w hfr hw
  simpa using this
theorem Y.indexArray {t e : TypeId} {x i : Operand} {k : IntKind} {b o len n : Nat} {m : Int} [u : UL P t (.array len e)] (hx : ev E x = some (.pointer (some ⟨b, o, none⟩))) (hi : ev E i = some (.int k m))
    [z : SZ P e n] (h : 0 ≤ m ∧ m < len) : Y P N E D S ⟨dst, .indexAddr t x i, ty, pos, aft, g⟩ (.pointer (some ⟨b, o + m.toNat * n, none⟩)) := fun a w hfr _ => by
  simp only [execOp, hfr.ev hx, hfr.ev hi, Instr.indexAt, asIntOf, Sem.run_bind, Sem.run_pure, run_UL u.h, Result.andThen_ok]
  simp [h, run_SZ z.h, Addr.add_none, Instr.sureAddr]
/-- An element of an array by value. -/
theorem Y.index1 {t e : TypeId} {x i : Operand} {k : IntKind} {len : Nat} {cs : Array Value} {m : Int} [u : UL P t (.array len e)] (hx : ev E x = some (.agg cs)) (hi : ev E i = some (.int k m))
    [z : SZ P e 1] [y : AG P e false] (h : 0 ≤ m ∧ m < len) (hv : cs[m.toNat]? = some v) : Y P N E D S ⟨dst, .index t x i, ty, pos, aft, g⟩ v := fun a w hfr _ => by
  simp only [execOp, hfr.ev hx, hfr.ev hi, Instr.index, asIntOf, Sem.run_bind, Sem.run_pure, run_UL u.h, Result.andThen_ok]
  simp [h, run_SZ z.h, part, run_isAgg y, hv]
theorem Y.len_slice {t e : TypeId} {x : Operand} {p : Option Addr} {len cap : Nat} [u : UL P t (.slice e)] (hx : ev E x = some (.slice p len cap)) :
    Y P N E D S ⟨dst, .call { callee := .builtin .len, args := #[x], argTypes := #[t] }, ty, pos, aft, g⟩ (.int .i64 len) := fun a w hfr _ => by
  simp only [execOp, resolve]
  simp only [List.map_toArray, List.map_cons, List.map_nil, hfr.ev hx]
  simp [go_sem, u.h, invoke]
end
end Go.Proofs.Ytikaonfnaobciaa
