/- Operations that yield a value, computed. -/
import Derived.Test.YtikaonfnaobciaaVa
namespace Go.Proofs.Ytikaonfnaobciaa
open Go.RowKit
set_option linter.unusedVariables false

inductive TU where
  | int (q : IntKind) | bool | str | slice (e : Nat) | ptr (e : Nat) | array (n e : Nat) | map (k e : Nat) | struct | other

structure TInf where
  u : TU
  size : Nat
  agg : Bool
  bytes : Nat
  zero : Option SV
  flds : List (Nat × Nat × Bool)
  pl : List (Nat × Nat)
  plok : Bool

structure TOk (P : Program) (t : Nat) (i : TInf) : Prop where
  sz : SZ P t i.size
  ag : AG P t i.agg
  bt : BY P t i.bytes
  zv : ∀ z, i.zero = some z → ZV P t z.val
  u : match i.u with
    | .int q => UL P t (.int q)
    | .bool => UL P t .bool
    | .str => UL P t .string
    | .slice e => UL P t (.slice e)
    | .ptr e => UL P t (.pointer e)
    | .array n e => UL P t (.array n e)
    | .map k e => UL P t (.map k e)
    | .struct => ∃ fs, UL P t (.struct fs)
    | .other => True
  pl : i.plok = true → PL P t i.pl
  fd : ∀ f x, nthS i.flds f = some x → FD P t f x.1 x.2.1 x.2.2

inductive Tr where
  | leaf
  | node (l : Tr) (k : Nat) (i : TInf) (r : Tr)
def Tr.get : Tr → Nat → Option TInf
  | .leaf, _ => none
  | .node l k i r, t => bif Nat.beq t k then some i else bif Nat.blt t k then l.get t else r.get t
def Tr.All (P : Program) : Tr → Prop
  | .leaf => True
  | .node l k i r => l.All P ∧ TOk P k i ∧ r.All P
theorem Tr.get_ok {P : Program} : ∀ {T : Tr}, T.All P → ∀ {t : Nat} {i : TInf}, T.get t = some i → TOk P t i
  | .leaf, _, _, _, h => by cases h
  | .node l k i r, ⟨h1, h2, h3⟩, t, j, h => by
    simp only [Tr.get] at h
    cases hb : Nat.beq t k with
    | true => rw [hb] at h; simp at h; rw [Nat.eq_of_beq_eq_true hb, ← h]; exact h2
    | false =>
      rw [hb] at h
      cases hc : Nat.blt t k with
      | true => rw [hc] at h; exact Tr.get_ok h1 (by simpa using h)
      | false => rw [hc] at h; exact Tr.get_ok h3 (by simpa using h)

/-! ### Decisions -/
def spl (p : Prop) (k : SV → Prop) : Prop := (p → k (.bool true)) ∧ (¬ p → k (.bool false))
theorem spl_ok {p : Prop} [d : Decidable p] {k : SV → Prop} (h : spl p k) : k (.bool (decide p)) := by
  by_cases hp : p
  · rw [decide_eq_true hp]; exact h.1 hp
  · rw [decide_eq_false hp]; exact h.2 hp
def spln (p : Prop) (k : SV → Prop) : Prop := (p → k (.bool false)) ∧ (¬ p → k (.bool true))
theorem spln_ok {p : Prop} [d : Decidable p] {k : SV → Prop} (h : spln p k) : k (.bool (!decide p)) := by
  by_cases hp : p
  · rw [decide_eq_true hp]; exact h.1 hp
  · rw [decide_eq_false hp]; exact h.2 hp
theorem spl_t {p : Prop} {k : SV → Prop} (hp : p) (h : k (.bool true)) : spl p k := ⟨fun _ => h, fun hn => absurd hp hn⟩
theorem spl_f {p : Prop} {k : SV → Prop} (hp : ¬ p) (h : k (.bool false)) : spl p k := ⟨fun hn => absurd hn hp, fun _ => h⟩
theorem spl_i {p : Prop} {k : SV → Prop} (h1 : p → k (.bool true)) (h2 : ¬ p → k (.bool false)) : spl p k := ⟨h1, h2⟩
theorem spln_t {p : Prop} {k : SV → Prop} (hp : p) (h : k (.bool false)) : spln p k := ⟨fun _ => h, fun hn => absurd hp hn⟩
theorem spln_f {p : Prop} {k : SV → Prop} (hp : ¬ p) (h : k (.bool true)) : spln p k := ⟨fun hn => absurd hn hp, fun _ => h⟩
theorem spln_i {p : Prop} {k : SV → Prop} (h1 : p → k (.bool false)) (h2 : ¬ p → k (.bool true)) : spln p k := ⟨h1, h2⟩
/-- An index into few. -/
def splitIx (m : Int) (k : Nat → Prop) : Nat → Nat → Prop
  | 0, _ => True
  | n + 1, c => (m = (c : Int) → k c) ∧ splitIx m k n (c + 1)
theorem splitIx_ok {m : Int} {k : Nat → Prop} : ∀ {n c : Nat}, splitIx m k n c → (c : Int) ≤ m → m < (c : Int) + n → ∃ j : Nat, m = (j : Int) ∧ j < c + n ∧ k j
  | 0, c, _, h1, h2 => by omega
  | n + 1, c, h, h1, h2 => by
    by_cases e : m = (c : Int)
    · exact ⟨c, e, by omega, h.1 e⟩
    · obtain ⟨j, h3, h4, h5⟩ := splitIx_ok h.2 (by omega) (by omega)
      exact ⟨j, h3, by omega, h5⟩

/-! ### Arithmetic -/
def wf64 (x : Int) : Prop := -9223372036854775808 ≤ x ∧ x ≤ 9223372036854775807
def arith (q : IntKind) (x : Int) (k : SV → Prop) : Prop := match q with
  | .i64 => wf64 x ∧ k (.int .i64 x)
  | q => k (.int q (q.wrap x))
def QuoV (q : IntKind) (m n : Int) (k : SV → Prop) : Prop := n ≠ 0 ∧ k (.int q (q.wrap (m.tdiv n)))
def RemV (q : IntKind) (m n : Int) (k : SV → Prop) : Prop := n ≠ 0 ∧ k (.int q (m.tmod n))
theorem QuoV.pos {m n : Int} {k : SV → Prop} (h : 0 ≤ m ∧ 0 < n ∧ m ≤ 9223372036854775807) (hk : k (.int .i64 (m / n))) : QuoV .i64 m n k := by
  refine ⟨by omega, ?_⟩
  rw [Int.tdiv_eq_ediv_of_nonneg h.1, wrapI ⟨by have := Int.ediv_nonneg h.1 (by omega : 0 ≤ n); omega, by have := Int.ediv_le_self n h.1; omega⟩]
  exact hk
theorem QuoV.gen {m n : Int} {k : SV → Prop} (h0 : n ≠ 0) (h : wf64 (m.tdiv n)) (hk : k (.int .i64 (m.tdiv n))) : QuoV .i64 m n k := ⟨h0, by rw [wrapI h]; exact hk⟩
theorem RemV.pos {q : IntKind} {m n : Int} {k : SV → Prop} (h : 0 ≤ m ∧ 0 < n) (hk : k (.int q (m % n))) : RemV q m n k := ⟨by omega, by rw [Int.tmod_eq_emod_of_nonneg h.1]; exact hk⟩
theorem RemV.gen {q : IntKind} {m n : Int} {k : SV → Prop} (h : n ≠ 0) (hk : k (.int q (m.tmod n))) : RemV q m n k := ⟨h, hk⟩
def qeq : IntKind → IntKind → Bool
  | .i64, .i64 => true
  | .u64, .u64 => true
  | .u8, .u8 => true
  | .i32, .i32 => true
  | .u32, .u32 => true
  | _, _ => false
theorem qeq_ok {q q' : IntKind} (h : qeq q q' = true) : q = q' := by cases q <;> cases q' <;> first | rfl | cases h

def intK (op : BinOp) (q : IntKind) (m n : Int) (k : SV → Prop) : Prop := match op with
  | .add => arith q (m + n) k
  | .sub => arith q (m - n) k
  | .mul => arith q (m * n) k
  | .quo => QuoV q m n k
  | .rem => RemV q m n k
  | .lss => spl (m < n) k
  | .leq => spl (m ≤ n) k
  | .gtr => spl (n < m) k
  | .geq => spl (n ≤ m) k
  | .eql => spl (m = n) k
  | .neq => spln (m = n) k
  | .and => k (.int q (Go.bits .and q m n))
  | .or => k (.int q (Go.bits .or q m n))
  | .xor => k (.int q (Go.bits .xor q m n))
  | .andNot => k (.int q (Go.bits .andNot q m n))
  | _ => False

def boolK (op : BinOp) (a b : Bool) (k : SV → Prop) : Prop := match op, a, b with
  | .eql, true, true => k (.bool true)
  | .eql, false, false => k (.bool true)
  | .eql, true, false => k (.bool false)
  | .eql, false, true => k (.bool false)
  | .neq, true, true => k (.bool false)
  | .neq, false, false => k (.bool false)
  | .neq, true, false => k (.bool true)
  | .neq, false, true => k (.bool true)
  | _, _, _ => False

/-- Two structs or arrays are compared. -/
class EQS (P : Program) (t : TypeId) (xs ys : List SV) (p : outParam Prop) : Prop where
  h : ∃ d : Decidable p, EQ P t (SV.vals xs) (SV.vals ys) p d
def AggEq (P : Program) (t : Nat) (xs ys : List SV) (neg : Bool) (k : SV → Prop) : Prop := ∃ p, EQS P t xs ys p ∧ (p → k (.bool (!neg))) ∧ (¬ p → k (.bool neg))
theorem AggEq.eq {P : Program} {t : Nat} {xs ys : List SV} {k : SV → Prop} {p : Prop} (e : EQS P t xs ys p) (h1 : p → k (.bool true)) (h2 : ¬ p → k (.bool false)) : AggEq P t xs ys false k := ⟨p, e, h1, h2⟩
theorem AggEq.ne {P : Program} {t : Nat} {xs ys : List SV} {k : SV → Prop} {p : Prop} (e : EQS P t xs ys p) (h1 : p → k (.bool false)) (h2 : ¬ p → k (.bool true)) : AggEq P t xs ys true k := ⟨p, e, h1, h2⟩

def strV (op : BinOp) (a b : ByteArray) (k : SV → Prop) : Prop := match op with
  | .add => a.size + b.size ≤ 9223372036854775807 ∧ k (.v (.string (a ++ b)))
  | .eql => spl (a.toList = b.toList) k
  | .neq => spln (a.toList = b.toList) k
  | _ => False

def isBoolT (T : Tr) (t : Nat) : Bool := match T.get t with | some i => (match i.u with | .bool => true | _ => false) | none => false
theorem isBoolT_ok {P : Program} {T : Tr} (hT : T.All P) {t : Nat} (h : isBoolT T t = true) : UL P t .bool := by
  unfold isBoolT at h
  split at h
  · rename_i i hi
    have := (Tr.get_ok hT hi).u
    split at h
    · rename_i hu; rw [hu] at this; exact this
    · cases h
  · cases h
def isSliceT (T : Tr) (t : Nat) : Bool := match T.get t with | some i => (match i.u with | .slice _ => true | _ => false) | none => false
theorem isSliceT_ok {P : Program} {T : Tr} {t : Nat} (hT : T.All P) (h : isSliceT T t = true) : ∃ e, UL P t (.slice e) := by
  unfold isSliceT at h
  split at h
  · rename_i i hi
    have := (Tr.get_ok hT hi).u
    split at h
    · rename_i e hu; rw [hu] at this; exact ⟨e, this⟩
    · cases h
  · cases h

/-- Is the slice nil? -/
def nilK (op : BinOp) (p : Option Addr) (k : SV → Prop) : Prop := match op with
  | .eql => spl (p = none) k
  | .neq => spln (p = none) k
  | _ => False
theorem nilK_eq {p : Option Addr} {k : SV → Prop} (h : nilK .eql p k) : k (.bool p.isNone) := by
  have h : spl (p = none) k := h
  have := spl_ok h
  cases p <;> simpa using this
theorem nilK_ne {p : Option Addr} {k : SV → Prop} (h : nilK .neq p k) : k (.bool (!p.isNone)) := by
  have h : spln (p = none) k := h
  have := spln_ok h
  cases p <;> simpa using this
def binK (P : Program) (T : Tr) (t : Nat) (op : BinOp) (s u : SV) (k : SV → Prop) : Prop := match s, u with
  | .int q m, .int q' n => match qeq q q' with | true => intK op q m n k | false => False
  | .bool a, .bool b => match isBoolT T t with | true => boolK op a b k | false => False
  | .agg xs, .agg ys => match op with | .eql => AggEq P t xs ys false k | .neq => AggEq P t xs ys true k | _ => False
  | .v (.string a), .v (.string b) => strV op a b k
  | .sl _ p _ none _ _, .v (.slice none _ _) => match isSliceT T t with | true => nilK op p k | false => False
  | .v (.slice p _ _), .v (.slice none _ _) => match isSliceT T t with | true => nilK op p k | false => False
  | _, _ => False

section
variable {P : Program} {T : Tr} {N : Nat} {E : SEnv} {D : List Nat} {H : Heap} {w0 : World} {X : List Nat} {L : List (Nat × Obj)} {S : Sp}
variable {ty : TypeId} {pos : String} {aft : Array Edge} {dst : Option Tmp} {g : Option (Nat × Bool)}

theorem run_eql_slice_nilg (w : World) (t e : TypeId) (a : Option Addr) (n c n' c' : Nat) (h : P.underlying t = some (.slice e)) : (binOp .eql t (.slice a n c) (.slice none n' c')).run P w = .ok (.bool a.isNone) w := Lib.run_eql_slice_nil w t e a n c n' c' h
theorem binK_ok_all {t t' : Nat} {op : BinOp} {s u : SV} {x y : Operand} {k : SV → Prop} (hT : T.All P) (h : binK P T t op s u k) (hx : ev (venv E) x = some s.val) (hy : ev (venv E) y = some u.val) :
    ∃ v, k v ∧ ∀ S : Sp, Y P N (venv E) D S ⟨dst, .binOp op t x y t', ty, pos, aft, g⟩ v.val := by
  unfold binK at h
  split at h
  · rename_i q m q' n
    split at h
    · rename_i hq
      obtain rfl := qeq_ok hq
      simp only [SV.val] at hx hy
      unfold intK at h
      cases op with
      | add | sub | mul =>
        simp only [arith] at h
        cases q with
        | i64 => exact ⟨_, h.2, fun S => by first | exact Y.add_ok hx hy h.1 | exact Y.sub_ok hx hy h.1 | exact Y.mul_ok hx hy h.1⟩
        | _ => exact ⟨_, h, fun S => by first | exact Y.add hx hy | exact Y.sub hx hy | exact Y.mul hx hy⟩
      | quo => exact ⟨_, h.2, fun S a w ha _ => by simp only [execOp, ha.ev hx, ha.ev hy]; simp [go_sem, h.1, SV.val]⟩
      | rem => exact ⟨_, h.2, fun S a w ha _ => by simp only [execOp, ha.ev hx, ha.ev hy]; simp [go_sem, h.1, SV.val]⟩
      | lss => exact ⟨_, spl_ok h, fun S a w ha _ => by simp only [execOp, ha.ev hx, ha.ev hy]; simp [go_sem, SV.val]⟩
      | leq => exact ⟨_, spl_ok h, fun S a w ha _ => by simp only [execOp, ha.ev hx, ha.ev hy]; simp [go_sem, SV.val]⟩
      | gtr => exact ⟨_, spl_ok h, fun S a w ha _ => by simp only [execOp, ha.ev hx, ha.ev hy]; simp [go_sem, SV.val]⟩
      | geq => exact ⟨_, spl_ok h, fun S a w ha _ => by simp only [execOp, ha.ev hx, ha.ev hy]; simp [go_sem, SV.val]⟩
      | eql => exact ⟨_, spl_ok h, fun S => Y.eql_int hx hy⟩
      | neq => exact ⟨_, spln_ok h, fun S => Y.neq_int hx hy⟩
      | and | or | xor | andNot => exact ⟨_, h, fun S a w ha _ => by simp only [execOp, ha.ev hx, ha.ev hy]; simp [go_sem, SV.val]⟩
      | _ => exact h.elim
    · exact h.elim
  · rename_i a b
    simp only [SV.val] at hx hy
    split at h
    · rename_i ht
      have ht := isBoolT_ok hT ht
      unfold boolK at h
      split at h
      case h_9 => exact h.elim
      all_goals first | exact ⟨_, h, fun S => Y.eql_bool hx hy⟩ | exact ⟨_, h, fun S => Y.neq_bool hx hy⟩
    · exact h.elim
  · rename_i xs ys
    simp only [SV.val] at hx hy
    split at h
    · obtain ⟨p, ⟨d, e⟩, h1, h2⟩ := h
      exact ⟨_, spl_ok (p := p) ⟨h1, h2⟩, fun S => Y.eql_agg hx hy⟩
    · obtain ⟨p, ⟨d, e⟩, h1, h2⟩ := h
      exact ⟨_, spln_ok (p := p) ⟨h1, h2⟩, fun S => by have := Y.neq_agg (P := P) (N := N) (D := D) (S := S) (t := t) (t' := t') (dst := dst) (ty := ty) (pos := pos) (aft := aft) (g := g) hx hy; rwa [decide_not] at this⟩
    · exact h.elim
  · rename_i a b
    simp only [SV.val] at hx hy
    unfold strV at h
    split at h
    · exact ⟨_, h.2, fun S ac w ha _ => by simp only [execOp, ha.ev hx, ha.ev hy]; simp [go_sem, SV.val]; exact h.1⟩
    · exact ⟨_, spl_ok h, fun S ac w ha _ => by simp only [execOp, ha.ev hx, ha.ev hy]; simp [go_sem, SV.val]; rw [Bool.eq_iff_iff]; simp⟩
    · exact ⟨_, spln_ok h, fun S ac w ha _ => by simp only [execOp, ha.ev hx, ha.ev hy]; simp [go_sem, SV.val]; rw [Bool.eq_iff_iff]; simp⟩
    · exact h.elim
  · rename_i i p n len cap n' c'
    simp only [SV.val, advp] at hx hy
    split at h
    · rename_i hs
      obtain ⟨e, he⟩ := isSliceT_ok hT hs
      cases op with
      | eql => exact ⟨_, nilK_eq h, fun S ac w ha _ => by simp only [execOp, ha.ev hx, ha.ev hy]; simp [eqGuard, SV.val, run_eql_slice_nilg w t e p len cap n' c' he.h]⟩
      | neq => exact ⟨_, nilK_ne h, fun S ac w ha _ => by simp only [execOp, ha.ev hx, ha.ev hy]; simp [eqGuard, SV.val, run_neq_slice_nil_any w t e p len cap n' c' he.h]⟩
      | _ => exact h.elim
    · exact h.elim
  · rename_i p len cap n' c'
    simp only [SV.val] at hx hy
    split at h
    · rename_i hs
      obtain ⟨e, he⟩ := isSliceT_ok hT hs
      cases op with
      | eql => exact ⟨_, nilK_eq h, fun S ac w ha _ => by simp only [execOp, ha.ev hx, ha.ev hy]; simp [eqGuard, SV.val, run_eql_slice_nilg w t e p len cap n' c' he.h]⟩
      | neq => exact ⟨_, nilK_ne h, fun S ac w ha _ => by simp only [execOp, ha.ev hx, ha.ev hy]; simp [eqGuard, SV.val, run_neq_slice_nil_any w t e p len cap n' c' he.h]⟩
      | _ => exact h.elim
    · exact h.elim
  · exact h.elim
end
end Go.Proofs.Ytikaonfnaobciaa
