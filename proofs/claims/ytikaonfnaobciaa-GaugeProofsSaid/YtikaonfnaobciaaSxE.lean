/- Structs and arrays put together. -/
import Derived.Test.YtikaonfnaobciaaSxD
namespace Go.Proofs.Ytikaonfnaobciaa
open Go.RowKit

/-- Where the parts of a struct or array lie, and their sizes. -/
def placesOf (P : Program) (t : TypeId) : Option (List (Nat × Nat)) :=
  match P.underlying t with
  | some (.struct fs) => fs.toList.mapM fun f => (P.info? f.type).map fun i => (f.offset, i.size)
  | some (.array n e) => (P.info? e).map fun i => (List.range n).map fun k => (k * i.size, i.size)
  | _ => none
class PL (P : Program) (t : TypeId) (pl : outParam (List (Nat × Nat))) : Prop where
  h : placesOf P t = some pl

inductive Fills (pl : List (Nat × Nat)) : List (Nat × Value) → List Value → List Value → Prop
  | nil {l : List Value} : Fills pl [] l l
  | cons {i off sz : Nat} {v : Value} {vs l l1 l2 : List Value} {r : List (Nat × Value)} (hp : pl[i]? = some (off, sz)) (hv : v.cells = vs.toArray) (hl : vs.length = sz) (hs : SetAt off vs l l1) (hr : Fills pl r l1 l2) : Fills pl ((i, v) :: r) l l2

theorem fold_setAll : ∀ (vs : List Value) (k off : Nat) (l : List Value), (vs.zipIdx k).foldl (fun cs (cj : Value × Nat) => cs.setIfInBounds (off + cj.2) cj.1) l.toArray = (setAll l (off + k) vs).toArray
  | [], _, _, _ => rfl
  | v :: vs, k, off, l => by
    simp only [List.zipIdx_cons, List.foldl_cons, setAll, List.setIfInBounds_toArray]
    rw [fold_setAll vs (k + 1) off (l.set (off + k) v)]
    rfl

theorem setAll_length : ∀ (vs l : List Value) (o : Nat), (setAll l o vs).length = l.length
  | [], _, _ => rfl
  | v :: vs, l, o => by simp only [setAll]; rw [setAll_length vs]; simp

theorem Fills.fill {pl : List (Nat × Nat)} {ps : List (Nat × Value)} {l l' : List Value} (h : Fills pl ps l l') {place : Nat → Option (Nat × Nat)} (hpl : ∀ i x, pl[i]? = some x → place i = some x) : Instr.fill place l.toArray ps = some l'.toArray := by
  induction h with
  | nil => rfl
  | @cons i off sz v vs l l1 l2 r hp hv hl hs _ ih =>
    have h1 := hs.le
    have h2 := hs.all
    unfold Instr.fill
    rw [hpl i _ hp]
    simp only [hv, List.size_toArray, hl, ne_eq, not_true_eq_false, decide_false, Bool.false_or]
    rw [if_neg (by simp; omega)]
    rw [← Array.foldl_toList, Array.toList_zipIdx]
    have := fold_setAll vs 0 off l
    simp only [Nat.add_zero, h2] at this
    rw [this]
    exact ih

section
variable {P : Program} {r : Option Nat} {N : Nat} {E : Env} {D : List Nat} {S : Sp} {Q : Exit → Act → World → Prop} {ops : Array Oper} {rest : List Oper}
variable {d : Nat} {op : Op} {ty : TypeId} {pos : String} {aft : Array Edge} {v : Value} {dst : Option Tmp} {g : Option (Nat × Bool)}

inductive Parts (E : Env) : List (Nat × Operand) → List (Nat × Value) → Prop
  | nil : Parts E [] []
  | cons {i : Nat} {x : Operand} {v : Value} {xs : List (Nat × Operand)} {vs : List (Nat × Value)} (h : ev E x = some v) (hs : Parts E xs vs) : Parts E ((i, x) :: xs) ((i, v) :: vs)

theorem Parts.map {a : Act} {xs : List (Nat × Operand)} {vs : List (Nat × Value)} (ha : Fr N E D a) (h : Parts E xs vs) : (xs.map fun (i, x) => (i, a.eval x)) = vs := by
  induction h with
  | nil => rfl
  | cons h _ ih => simp [ha.ev h, ih]

theorem placesOf_run {t : TypeId} {fs : Array Field} {pl : List (Nat × Nat)} (hu : P.underlying t = some (.struct fs)) (h : placesOf P t = some pl) (w : World) :
    (fs.mapM (m := Sem) fun (f : Field) => do pure (f.offset, ← sizeOf f.type)).run P w = .ok pl.toArray w := by
  simp only [placesOf, hu] at h
  rw [← Array.toArray_toList (xs := fs), List.mapM_toArray]
  generalize fs.toList = l at h
  have key : ∀ (l : List Field) (pl : List (Nat × Nat)), (l.mapM fun (f : Field) => (P.info? f.type).map fun i => (f.offset, i.size)) = some pl → (l.mapM (m := Sem) fun (f : Field) => do pure (f.offset, ← sizeOf f.type)).run P w = .ok pl w := by
    intro l
    induction l with
    | nil => intro pl h; simp at h; subst h; simp
    | cons f l ih =>
      intro pl h
      simp only [List.mapM_cons, Option.bind_eq_bind, Option.bind_eq_some_iff, Option.map_eq_some_iff] at h
      obtain ⟨x, ⟨i, hi, rfl⟩, ys, hy, h⟩ := h
      simp at h; subst h
      have := ih ys hy
      simp only [List.mapM_cons, Sem.run_bind, sizeOf, typeInfo, run_program, Result.andThen_ok, hi, Sem.run_pure]
      simp only [sizeOf, typeInfo] at this
      rw [this]; simp
  simp only [Sem.run_map, key l pl h]
  rfl

theorem Y.build {t : TypeId} {fs : Array Field} {pl : List (Nat × Nat)} {z l : List Value} {ps : List (Nat × Operand)} {pv : List (Nat × Value)} [u : UL P t (.struct fs)] [zv : ZV P t (.agg z.toArray)] [hp : PL P t pl]
    (hps : Parts E ps pv) (hf : Fills pl pv z l) : Y P N E D S ⟨dst, .build t ps.toArray, ty, pos, aft, g⟩ (.agg l.toArray) := fun a w ha _ => by
  have hm : ps.toArray.map (fun (i, x) => (i, a.eval x)) = pv.toArray := by rw [List.map_toArray, hps.map ha]
  simp only [execOp, Instr.build, Sem.run_bind, run_ZV zv.h, Result.andThen_ok, run_UL u.h]
  rw [placesOf_run u.h hp.h]
  simp only [Result.andThen_ok, hm, Value.cells]
  rw [hf.fill (fun i x hx => by simpa using hx)]
  simp

theorem Y.build_arr {t e : TypeId} {n sz : Nat} {pl : List (Nat × Nat)} {z l : List Value} {ps : List (Nat × Operand)} {pv : List (Nat × Value)} [u : UL P t (.array n e)] [zv : ZV P t (.agg z.toArray)] [hs : SZ P e sz] [hp : PL P t pl]
    (hps : Parts E ps pv) (hf : Fills pl pv z l) : Y P N E D S ⟨dst, .build t ps.toArray, ty, pos, aft, g⟩ (.agg l.toArray) := fun a w ha _ => by
  have hm : ps.toArray.map (fun (i, x) => (i, a.eval x)) = pv.toArray := by rw [List.map_toArray, hps.map ha]
  have hpl : pl = (List.range n).map fun k => (k * sz, sz) := by
    have h1 := hp.h
    have h2 := hs.h
    simp only [placesOf, u.h] at h1
    cases hq : P.info? e with
    | none => simp [hq] at h2
    | some i => simp [hq] at h1 h2; rw [← h1, h2]
  simp only [execOp, Instr.build, Sem.run_bind, run_ZV zv.h, Result.andThen_ok, run_UL u.h, run_SZ hs.h, hm, Value.cells]
  rw [hf.fill (fun i x hx => by
    subst hpl
    simp only [List.getElem?_map, Option.map_eq_some_iff] at hx
    obtain ⟨k, hk, rfl⟩ := hx
    rcases Nat.lt_or_ge i n with h | h
    · simp [h] at hk; rw [hk]
    · simp [h] at hk)]
  simp
end
end Go.Proofs.Ytikaonfnaobciaa
