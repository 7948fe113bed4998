/- Memory of the call's own, memory that came in, calls. -/
import Derived.Test.YtikaonfnaobciaaSxB
namespace Go.Proofs.Ytikaonfnaobciaa
open Go.RowKit

/-- The k entries from o on. -/
inductive GetAt : Nat → Nat → List Value → List Value → Prop
  | zero {l : List Value} : GetAt 0 0 l []
  | take {k : Nat} {x : Value} {r vs : List Value} (h : GetAt 0 k r vs) : GetAt 0 (k + 1) (x :: r) (x :: vs)
  | skip {n k : Nat} {x : Value} {r vs : List Value} (h : GetAt n k r vs) : GetAt (n + 1) k (x :: r) vs

theorem GetAt.spec {o k : Nat} {l vs : List Value} (h : GetAt o k l vs) : vs.length = k ∧ ∀ j v, vs[j]? = some v → l[o + j]? = some v := by
  induction h with
  | zero => simp
  | take _ ih =>
    refine ⟨by simp [ih.1], fun j v hj => ?_⟩
    cases j with
    | zero => simpa using hj
    | succ j => have := ih.2 j v (by simpa using hj); simpa [Nat.zero_add] using this
  | skip _ ih => exact ⟨ih.1, fun j v hj => by have := ih.2 j v hj; rw [Nat.add_right_comm]; simpa using this⟩

/-- The entries from o on are turned into vs. -/
inductive SetAt : Nat → List Value → List Value → List Value → Prop
  | done {l : List Value} : SetAt 0 [] l l
  | take {x v : Value} {vs r r' : List Value} (h : SetAt 0 vs r r') : SetAt 0 (v :: vs) (x :: r) (v :: r')
  | skip {n : Nat} {x : Value} {vs r r' : List Value} (h : SetAt n vs r r') : SetAt (n + 1) vs (x :: r) (x :: r')

def setAll : List Value → Nat → List Value → List Value
  | l, _, [] => l
  | l, o, v :: vs => setAll (l.set o v) (o + 1) vs

theorem setAll_cons (x : Value) : ∀ (vs l : List Value) (o : Nat), setAll (x :: l) (o + 1) vs = x :: setAll l o vs
  | [], _, _ => rfl
  | v :: vs, l, o => by simp only [setAll, List.set_cons_succ]; exact setAll_cons x vs (l.set o v) (o + 1)

theorem SetAt.all {o : Nat} {vs l l' : List Value} (h : SetAt o vs l l') : setAll l o vs = l' := by
  induction h with
  | done => rfl
  | take _ ih => simp only [setAll, List.set_cons_zero]; rw [setAll_cons, ih]
  | skip _ ih => rw [setAll_cons, ih]

theorem SetAt.le {o : Nat} {vs l l' : List Value} (h : SetAt o vs l l') : o + vs.length ≤ l.length := by
  induction h with
  | done => simp
  | take _ ih => simp at ih ⊢; omega
  | skip _ ih => simp at ih ⊢; omega

structure Same (b : Nat) (w w' : World) : Prop where
  os : w'.os = w.os
  tape : w'.tape = w.tape
  output : w'.output = w.output
  size : w'.heap.size = w.heap.size
  other : ∀ k, k ≠ b → w'.heap[k]? = w.heap[k]?

theorem Same.trans {b : Nat} {x y z : World} (h : Same b x y) (k : Same b y z) : Same b x z :=
  ⟨k.os.trans h.os, k.tape.trans h.tape, k.output.trans h.output, k.size.trans h.size, fun i hi => (k.other i hi).trans (h.other i hi)⟩

theorem run_storeCells_own (P : Program) {b o T : Nat} : ∀ (vs : List Value) (i : Nat) (l : List Value) (w : World), w.heap[b]? = some (.cells l.toArray T (0, 0)) → o + i + vs.length ≤ l.length → vs.all Value.oneCell' = true →
    ∃ w', (storeCells ⟨b, o, none⟩ vs i).run P w = .ok () w' ∧ Same b w w' ∧ w'.heap[b]? = some (.cells (setAll l (o + i) vs).toArray T (0, 0))
  | [], i, l, w, hb, _, _ => ⟨w, rfl, ⟨rfl, rfl, rfl, rfl, fun _ _ => rfl⟩, hb⟩
  | v :: vs, i, l, w, hb, hl, h1 => by
    simp only [List.all_cons, Bool.and_eq_true] at h1
    simp only [List.length_cons] at hl
    have hc : w.cell? ⟨b, o + i, none⟩ = some (l[o + i]'(by omega)) := by
      simp [World.cell?, hb]
    have hf : w.frozen? ⟨b, o + i, none⟩ = false := by simp [World.frozen?, hb]
    have hb' : (w.setCell ⟨b, o + i, none⟩ v).heap[b]? = some (.cells (l.set (o + i) v).toArray T (0, 0)) := by
      simp [World.setCell, Array.getElem?_modify, hb]
    obtain ⟨w', hr, hs, hw⟩ := run_storeCells_own P (o := o) vs (i + 1) (l.set (o + i) v) (w.setCell ⟨b, o + i, none⟩ v) hb' (by simp; omega) h1.2
    refine ⟨w', ?_, Same.trans (y := w.setCell ⟨b, o + i, none⟩ v) ⟨rfl, rfl, rfl, by simp, fun k hk => Below.heap_setCell _ _ _ _ hk⟩ hs, ?_⟩
    · rw [storeCells, Sem.run_bind, Addr.add_none, run_store P w _ v _ h1.1, hc]
      simp only [hf, Bool.false_eq_true, if_false, Result.andThen_ok]
      exact hr
    · rw [hw]; rfl

theorem cell_own {w : World} {b : Nat} {l : List Value} {T : Nat} {fr : Nat × Nat} (h : w.heap[b]? = some (.cells l.toArray T fr)) (j : Nat) : w.cell? ⟨b, j, none⟩ = l[j]? := by simp [World.cell?, h]

/-- Cells that came in. -/
def Cs (w : World) (b o : Nat) (vs : List Value) : Prop := ∀ j v, vs[j]? = some v → w.cell? ⟨b, o + j, none⟩ = some v

theorem Cs.kp {X : List Nat} {w0 w : World} {b o : Nat} {vs : List Value} (h : Cs w0 b o vs) (hk : Kp X w0 w) (hX : b ∉ X) : Cs w b o vs := fun j v hj => by
  have h1 := h j v hj
  have hb : b < w0.heap.size := block_lt_of_cell h1
  rw [← h1]
  exact World.cell?_of_block (a := ⟨b, o + j, none⟩) (hk.keep b hb hX)

theorem run_load_agg {P : Program} {t k : Nat} {w : World} {b o : Nat} {vs : List Value} (hag : AG P t true) (hz : (P.info? t).map (·.size) = some k) (hk : vs.length = k) (hc : Cs w b o vs) :
    (loadVar t ⟨b, o, none⟩).run P w = .ok (.agg vs.toArray) w := by
  have := run_loadCells_list (P := P) w ⟨b, o, none⟩ vs (fun j v hj => by rw [Addr.add_none]; exact hc j v hj)
  rw [hk] at this
  simp [loadVar, Sem.run_bind, run_isAgg hag, run_SZ hz, this]
theorem run_load_one {P : Program} {t : Nat} {w : World} {b o : Nat} {v : Value} (hag : AG P t false) (hc : w.cell? ⟨b, o, none⟩ = some v) :
    (loadVar t ⟨b, o, none⟩).run P w = .ok v w := by
  simp [loadVar, Sem.run_bind, run_isAgg hag, run_load, hc]

section
variable {P : Program} {r : Option Nat} {N : Nat} {E : Env} {D : List Nat} {S : Sp} {K : Act → World → Prop}
variable {d : Nat} {op : Op} {ty : TypeId} {pos : String} {aft : Array Edge} {v : Value} {dst : Option Tmp} {g : Option (Nat × Bool)}
variable {w0 : World} {X : List Nat} {L : List (Nat × Obj)} {M : List Nat}

theorem Wd.cs {b o k T : Nat} {l vs : List Value} {fr : Nat × Nat} {w : World} (hw : Wd ⟨w0, X, L, M⟩ w) (hm : (b, Obj.cells l.toArray T fr) ∈ L) (hg : GetAt o k l vs) : Cs w b o vs := fun j v hj => by
  rw [cell_own (hw.own _ hm)]; exact hg.spec.2 j v hj

theorem Y.load_agg {t b o k T : Nat} {x : Operand} {l vs : List Value} {fr : Nat × Nat} (hx : ev E x = some (.pointer (some ⟨b, o, none⟩))) [hu : AG P t true] [hz : SZ P t k]
    (hm : (b, Obj.cells l.toArray T fr) ∈ L) (hg : GetAt o k l vs) : Y P N E D ⟨w0, X, L, M⟩ ⟨dst, .load t x, ty, pos, aft, g⟩ (.agg vs.toArray) := fun a w ha hw => by
  simp [execOp, ha.ev hx, Instr.loadAt, Instr.sureAddr, run_load_agg hu hz.h hg.spec.1 (hw.cs hm hg)]
theorem Y.load_one {t b o T : Nat} {x : Operand} {l : List Value} {fr : Nat × Nat} (hx : ev E x = some (.pointer (some ⟨b, o, none⟩))) [hu : AG P t false]
    (hm : (b, Obj.cells l.toArray T fr) ∈ L) (hg : GetAt o 1 l [v]) : Y P N E D ⟨w0, X, L, M⟩ ⟨dst, .load t x, ty, pos, aft, g⟩ v := fun a w ha hw => by
  simp [execOp, ha.ev hx, Instr.loadAt, Instr.sureAddr, run_load_one hu (show w.cell? ⟨b, o, none⟩ = some v from hw.cs hm hg 0 v rfl)]
theorem Y.load_ext_agg {t b o k : Nat} {x : Operand} {vs : List Value} (hx : ev E x = some (.pointer (some ⟨b, o, none⟩))) [hu : AG P t true] [hz : SZ P t k]
    (hc : Cs w0 b o vs) (hk : vs.length = k) (hX : b ∉ X) : Y P N E D ⟨w0, X, L, M⟩ ⟨dst, .load t x, ty, pos, aft, g⟩ (.agg vs.toArray) := fun a w ha hw => by
  simp [execOp, ha.ev hx, Instr.loadAt, Instr.sureAddr, run_load_agg hu hz.h hk (hc.kp hw.kp hX)]
theorem Y.load_ext_one {t b o : Nat} {x : Operand} (hx : ev E x = some (.pointer (some ⟨b, o, none⟩))) [hu : AG P t false]
    (hc : Cs w0 b o [v]) (hX : b ∉ X) : Y P N E D ⟨w0, X, L, M⟩ ⟨dst, .load t x, ty, pos, aft, g⟩ v := fun a w ha hw => by
  simp [execOp, ha.ev hx, Instr.loadAt, Instr.sureAddr, run_load_one hu (show w.cell? ⟨b, o, none⟩ = some v from hc.kp hw.kp hX 0 v rfl)]

/-! New blocks. -/
theorem St.newcells {t : Nat} {l : List Value} (hrun : ∀ a w, Fr N E D a → Wd ⟨w0, X, L, M⟩ w → (execOp a.eval ⟨some d, op, ty, pos, aft, g⟩).run P w = .ok (.value (.pointer (some ⟨w.heap.size, 0, none⟩))) (w.alloc (.cells l.toArray t)))
    (hd : Nat.blt d N = true) (h : ∀ b, St N ((d, .pointer (some ⟨b, 0, none⟩)) :: E) D ⟨w0, X, (b, .cells l.toArray t (0, 0)) :: L, M⟩ K) :
    St N E D ⟨w0, X, L, M⟩ (Op1 P r ⟨some d, op, ty, pos, aft, g⟩ K) := fun a w ha hw => by
  unfold Op1
  rw [hrun a w ha hw]
  exact h _ _ _ (ha.put _ (by simpa using hd)) (hw.alloc _)

theorem St.box_agg {t : Nat} {x : Operand} {l : List Value} (hx : ev E x = some (.agg l.toArray)) (hd : Nat.blt d N = true)
    (h : ∀ b, St N ((d, .pointer (some ⟨b, 0, none⟩)) :: E) D ⟨w0, X, (b, .cells l.toArray t (0, 0)) :: L, M⟩ K) :
    St N E D ⟨w0, X, L, M⟩ (Op1 P r ⟨some d, .box t x, ty, pos, aft, g⟩ K) :=
  St.newcells (fun a w ha _ => by simp [execOp, ha.ev hx, Instr.box, newVar, newRow, Value.cells]) hd h
theorem St.box_one {t : Nat} {x : Operand} (hx : ev E x = some v) (hv : v.cells = #[v]) (hd : Nat.blt d N = true)
    (h : ∀ b, St N ((d, .pointer (some ⟨b, 0, none⟩)) :: E) D ⟨w0, X, (b, .cells [v].toArray t (0, 0)) :: L, M⟩ K) :
    St N E D ⟨w0, X, L, M⟩ (Op1 P r ⟨some d, .box t x, ty, pos, aft, g⟩ K) :=
  St.newcells (fun a w ha _ => by simp [execOp, ha.ev hx, Instr.box, newVar, newRow, hv]) hd h
theorem St.alloc_agg {t : Nat} {l : List Value} [z : ZV P t (.agg l.toArray)] (hd : Nat.blt d N = true)
    (h : ∀ b, St N ((d, .pointer (some ⟨b, 0, none⟩)) :: E) D ⟨w0, X, (b, .cells l.toArray t (0, 0)) :: L, M⟩ K) :
    St N E D ⟨w0, X, L, M⟩ (Op1 P r ⟨some d, .alloc t, ty, pos, aft, g⟩ K) :=
  St.newcells (fun a w _ _ => by simp [execOp, Instr.alloc, run_ZV z.h, newVar, newRow, Value.cells]) hd h
theorem St.alloc_one {t : Nat} {z0 : Value} [z : ZV P t z0] (hv : z0.cells = #[z0]) (hd : Nat.blt d N = true)
    (h : ∀ b, St N ((d, .pointer (some ⟨b, 0, none⟩)) :: E) D ⟨w0, X, (b, .cells [z0].toArray t (0, 0)) :: L, M⟩ K) :
    St N E D ⟨w0, X, L, M⟩ (Op1 P r ⟨some d, .alloc t, ty, pos, aft, g⟩ K) :=
  St.newcells (fun a w _ _ => by simp [execOp, Instr.alloc, run_ZV z.h, newVar, newRow, hv]) hd h

/-! A store into an own block. -/
theorem St.store {t b o k T : Nat} {p x : Operand} {l l' vs : List Value} {L' : List (Nat × Obj)} (hp : ev E p = some (.pointer (some ⟨b, o, none⟩))) (hx : ev E x = some v) (hv : v.cells = vs.toArray) [z : SZ P t k] (hk : vs.length = k)
    (hrep : Rep b (.cells l.toArray T (0, 0)) (.cells l'.toArray T (0, 0)) L L') (hset : SetAt o vs l l') (h1 : vs.all Value.oneCell' = true)
    (h : St N E D ⟨w0, X, L', M⟩ K) :
    St N E D ⟨w0, X, L, M⟩ (Op1 P r ⟨none, .store t p x, ty, pos, aft, g⟩ K) := fun a w ha hw => by
  obtain ⟨w', hr, hs, hb⟩ := run_storeCells_own P (o := o) vs 0 l w (hw.own _ hrep.mem) (by have := hset.le; omega) h1
  have : (execOp a.eval ⟨none, .store t p x, ty, pos, aft, g⟩).run P w = .ok .skip w' := by
    simp [execOp, ha.ev hp, ha.ev hx, Instr.storeAt, Instr.sureAddr, storeVar, run_SZ z.h, hv, hk, hr]
  unfold Op1
  rw [this]
  refine h _ _ (ha.put_none undef) (hw.turn hrep rfl hs.os hs.tape hs.output hs.size ?_ hs.other)
  rw [hb, Nat.add_zero, hset.all]
end

end Go.Proofs.Ytikaonfnaobciaa
