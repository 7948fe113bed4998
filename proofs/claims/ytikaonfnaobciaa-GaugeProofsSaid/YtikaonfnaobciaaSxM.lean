/- Steps that leave more than one state behind, in regions that draw. -/
import Derived.Test.YtikaonfnaobciaaSxL
namespace Go.Proofs.Ytikaonfnaobciaa
open Go.RowKit
set_option linter.unusedVariables false
section
variable {P : Program} {r : Option Nat} {N : Nat} {E : Env} {D : List Nat} {w0 : World} {X : List Nat} {L : List (Nat × Obj)} {M : List Nat}
variable {d : Nat} {ty : TypeId} {pos : String} {aft : Array Edge} {g : Option (Nat × Bool)} {S S0 : Sp} {G K : Act → World → Prop} {n f f1 k : Nat} {l : List Oper} {listed : Array Bool}

/-- The operation leads into one of the states Sx, with vx handed back. -/
def Stp (P : Program) (r : Option Nat) (N : Nat) (E : Env) (D : List Nat) (S : Sp) (o : Oper) {ι : Type} (Z : ι → Prop) (d : Nat) (vx : ι → Value) (Sx : ι → Sp) : Prop :=
  ∀ K : Act → World → Prop, (∀ x, Z x → St N ((d, vx x) :: E) D (Sx x) K) → St N E D S (Op1 P r o K)
theorem Stp.ex {o : Oper} {ι : Type} {Z : ι → Prop} {vx : ι → Value} {Sx : ι → Sp} (h : Stp P r N E D S o Z d vx Sx) : St N E D S (Op1 P r o (fun a w => ∃ x : { x // Z x }, Fr N ((d, vx x.1) :: E) D a ∧ Wd (Sx x.1) w)) :=
  h _ fun x hx _ _ ha hw => ⟨⟨x, hx⟩, ha, hw⟩
theorem GSt.stp1 {i : Nat} {o : Oper} {ι : Type} {Z : ι → Prop} {vx : ι → Value} {Sx : ι → Sp} (hf1 : f1 = f + 1) (hr : headReady l.toArray n listed = [i]) (hi : nthO l i = some o) (hg : o.guard = none)
    (h1 : Stp P r N E D S o Z d vx Sx) (hC : ∀ x w, Wd (Sx x) w → Wd S0 w) (h : ∀ x, Z x → GSt N ((d, vx x) :: E) D (Sx x) P r S0 l n G f (listed.setIfInBounds i true) 0) : GSt N E D S P r S0 l n G f1 listed k :=
  GSt.one (ι := { x // Z x }) (Ex := fun x => (d, vx x.1) :: E) (Sx := fun x => Sx x.1) hf1 hr hi hg h1.ex (fun x => hC x.1) (fun x => h x.1 x.2)
theorem GSt.stp2 {i i2 d2 : Nat} {o o2 : Oper} {ι ι2 : Type} {Z : ι → Prop} {vx : ι → Value} {Sx : ι → Sp} {Z2 : ι2 → Prop} {vx2 : ι2 → Value} {Sx2 : ι2 → Sp} (hf1 : f1 = f + 1) (hr : headReady l.toArray n listed = [i, i2]) (hi : nthO l i = some o) (hi2 : nthO l i2 = some o2) (hg : o.guard = none) (hg2 : o2.guard = none)
    (h1 : Stp P r N E D S o Z d vx Sx) (hC : ∀ x w, Wd (Sx x) w → Wd S0 w) (h2 : Stp P r N E D S o2 Z2 d2 vx2 Sx2) (hC2 : ∀ x w, Wd (Sx2 x) w → Wd S0 w)
    (h : ∀ x, Z x → GSt N ((d, vx x) :: E) D (Sx x) P r S0 l n G f (listed.setIfInBounds i true) 0) (h' : ∀ x, Z2 x → GSt N ((d2, vx2 x) :: E) D (Sx2 x) P r S0 l n G f (listed.setIfInBounds i2 true) 0) : GSt N E D S P r S0 l n G f1 listed k :=
  GSt.two (ι := { x // Z x }) (Ex := fun x => (d, vx x.1) :: E) (Sx := fun x => Sx x.1) (ι2 := { x // Z2 x }) (Ex2 := fun x => (d2, vx2 x.1) :: E) (Sx2 := fun x => Sx2 x.1) hf1 hr hi hi2 hg hg2 h1.ex (fun x => hC x.1) h2.ex (fun x => hC2 x.1) (fun x => h x.1 x.2) (fun x => h' x.1 x.2)

/-- An empty row. -/
theorem Stp.buildSlice0 {t e sz : Nat} [u : UL P t (.slice e)] [hs : SZ P e sz] (hd : Nat.blt d N = true) :
    Stp P r N E D ⟨w0, X, L, M⟩ ⟨some d, .buildSlice t 0 #[], ty, pos, aft, g⟩ (fun _ : Nat => True) d (fun b => .slice (some ⟨b, 0, none⟩) 0 0) (fun b => ⟨w0, X, (b, .cells ([] : List Value).toArray e (0, 0)) :: L, M⟩) := fun K h a w ha hw => by
  have hrun : (execOp a.eval ⟨some d, .buildSlice t 0 #[], ty, pos, aft, g⟩).run P w = .ok (.value (.slice (some ⟨w.heap.size, 0, none⟩) 0 0)) (w.alloc (.cells ([] : List Value).toArray e)) := by
    simp only [execOp, Instr.buildSlice, Sem.run_bind, run_UL u.h, run_SZ hs.h, Result.andThen_ok]
    have h0 : (Array.range 0).map (fun _ => (default : Value)) = #[] := by simp
    simp [Instr.fill, newRow]
    try rw [h0]
  unfold Op1
  rw [hrun]
  exact h w.heap.size trivial _ _ (ha.put _ (by simpa using hd)) (hw.alloc _)
theorem Stp.buildSlice {t e sz len : Nat} {z : Value} {zs l : List Value} {ps : List (Nat × Operand)} {pv : List (Nat × Value)} [u : UL P t (.slice e)] [hs : SZ P e sz] [zv : ZV P e z] (hz : z.cells = zs.toArray) (hlen : zs.length = sz) (hpos : Nat.blt 0 (len * sz) = true) (hmax : Nat.ble (len * sz) 16777216 = true)
    (hps : Parts E ps pv) (hf : Fills ((List.range len).map fun k => (k * sz, sz)) pv (zrow len zs) l) (hd : Nat.blt d N = true) :
    Stp P r N E D ⟨w0, X, L, M⟩ ⟨some d, .buildSlice t len ps.toArray, ty, pos, aft, g⟩ (fun _ : Nat => True) d (fun b => .slice (some ⟨b, 0, none⟩) len len) (fun b => ⟨w0, X, (b, .cells l.toArray e (0, 0)) :: L, M⟩) :=
  fun K h => St.buildSlicev hz hlen hpos hmax hps hf hd fun b => h b trivial
theorem Stp.append {A Lr : List (Nat × Obj)} {t e size bytes n m c : Nat} {z vr : Value} {xs news : List Value} {a : Addr} {x y : Operand} [u : UL P t (.slice e)] [sz : SZ P e size] [bt : BY P e bytes] [zv : ZV P e z]
    (hx : ev E x = some vr) (hy : ev E y = some (.slice (some a) m c)) (hrow : RowOk e size vr n xs Lr) (hperm : L.Perm (A ++ Lr)) (hzs : z.cells.size = size) (hsz : 0 < size)
    (hl : news.length = m * size) (hnews : ∀ w, Wd ⟨w0, X, L, M⟩ w → ∀ j u, news[j]? = some u → w.cell? (a.add j) = some u) (h1 : ∀ u ∈ news, u.oneCell' = true)
    (hbytes : (n + m) * bytes ≤ 140737488355328) (hmax : n + m ≤ 140737488355328) (hd : Nat.blt d N = true) :
    Stp P r N E D ⟨w0, X, L, M⟩ ⟨some d, .call { callee := .builtin .append, args := #[x, y], argTypes := #[t, t] }, ty, pos, aft, g⟩ (fun p : Value × List (Nat × Obj) => RowOk e size p.1 (n + m) (xs ++ news) p.2) d (fun p => p.1) (fun p => ⟨w0, X, A ++ p.2, M⟩) :=
  fun K h => St.append (T := 0) hx hy hrow hperm hzs hsz hl hnews h1 hbytes hmax hd fun v Lr' hr => h (v, Lr') hr
/-- Nothing is put behind a row. -/
theorem Y.append0 {t e size bytes n cap c : Nat} {b q : Option Addr} {x y : Operand} [u : UL P t (.slice e)] [sz : SZ P e size] (hx : ev E x = some (.slice b n cap)) (hy : ev E y = some (.slice q 0 c)) (hn : n ≤ cap) :
    Y P N E D S ⟨some d, .call { callee := .builtin .append, args := #[x, y], argTypes := #[t, t] }, ty, pos, aft, g⟩ (.slice b n cap) := fun a w ha hw => by
  have h1 : ∀ (b : Option Addr) (w : World), (Builtin.append_ #[t, t] ty #[.slice b n cap, .slice q 0 c]).run P w = .ok (.slice b n cap) w := fun b w => by
    cases b <;> cases q <;> simp [Builtin.append_, run_UL u.h, run_SZ sz.h, Builtin.lenOf, hn, Builtin.firstCells, storeCells, loadCells, loadCellsFrom]
  simp only [execOp, resolve]
  simp only [List.map_toArray, List.map_cons, List.map_nil, ha.ev hx, ha.ev hy]
  simp [invoke, builtin, h1]
end
end Go.Proofs.Ytikaonfnaobciaa
