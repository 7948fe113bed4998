/- Calls that are told of the caller's own blocks. -/
import Derived.Test.YtikaonfnaobciaaSxK
namespace Go.Proofs.Ytikaonfnaobciaa
open Go.RowKit
section
variable {P : Program} {r : Option Nat} {N : Nat} {E : Env} {D : List Nat} {K : Act → World → Prop} {w0 : World} {X : List Nat} {L : List (Nat × Obj)} {M : List Nat}
variable {d : Nat} {ty : TypeId} {pos : String} {aft : Array Edge} {g : Option (Nat × Bool)} {fo : Operand} {kf : Nat} {fn : Func} {fs cs vs : List Value} {args : List Operand} {ats : Array TypeId}
theorem St.callf {ι : Type} {Z : ι → Prop} {A Lc : List (Nat × Obj)} {Lx : ι → List (Nat × Obj)} {vx : ι → Value}
    (hfx : ev E fo = some (.func (.func kf) fs.toArray cs.toArray)) (hF : FN P kf fn) (hargs : Args E args vs) (hperm : L.Perm (A ++ Lc))
    (hc : ∀ w, Wd ⟨w0, X, L, M⟩ w → Wd ⟨w, Lc.map (·.1), Lc, []⟩ w → Calls P kf (fs ++ vs ++ cs).toArray w fun e w' => ∃ x, e = .returned (vx x) ∧ Z x ∧ Wd ⟨w, Lc.map (·.1), Lx x, []⟩ w')
    (hd : Nat.blt d N = true) (h : ∀ x, Z x → St N ((d, vx x) :: E) D ⟨w0, X, A ++ Lx x, M⟩ K) :
    St N E D ⟨w0, X, L, M⟩ (Op1 P r ⟨some d, .call { callee := .value fo, args := args.toArray, argTypes := ats }, ty, pos, aft, g⟩ K) :=
  St.call_gen hfx hargs (R := fun w e w' => ∃ x, e = .returned (vx x) ∧ Z x ∧ Wd ⟨w, Lc.map (·.1), Lx x, []⟩ w')
    (fun w hw => callsIn_FR (hc w hw (hw.perm hperm).enter))
    fun w e w' hw ⟨x, he, hz, hk⟩ => ⟨vx x, he, fun _ ha => h x hz _ w' (ha.put _ (by simpa using hd)) ((hw.perm hperm).frame (fun z hz => hz) hk)⟩
theorem GSt.onecall {ι : Type} {Z : ι → Prop} {A Lc : List (Nat × Obj)} {Lx : ι → List (Nat × Obj)} {vx : ι → Value} {S0 : Sp} {G : Act → World → Prop} {n f f1 k i : Nat} {l : List Oper} {listed : Array Bool}
    (hf1 : f1 = f + 1) (hr : headReady l.toArray n listed = [i]) (hi : nthO l i = some ⟨some d, .call { callee := .value fo, args := args.toArray, argTypes := ats }, ty, pos, aft, none⟩)
    (hfx : ev E fo = some (.func (.func kf) fs.toArray cs.toArray)) (hF : FN P kf fn) (hargs : Args E args vs) (hperm : L.Perm (A ++ Lc))
    (hc : ∀ w, Wd ⟨w0, X, L, M⟩ w → Wd ⟨w, Lc.map (·.1), Lc, []⟩ w → Calls P kf (fs ++ vs ++ cs).toArray w fun e w' => ∃ x, e = .returned (vx x) ∧ Z x ∧ Wd ⟨w, Lc.map (·.1), Lx x, []⟩ w')
    (hd : Nat.blt d N = true) (hC : ∀ x w, Wd ⟨w0, X, A ++ Lx x, M⟩ w → Wd S0 w)
    (h : ∀ x, Z x → GSt N ((d, vx x) :: E) D ⟨w0, X, A ++ Lx x, M⟩ P r S0 l n G f (listed.setIfInBounds i true) 0) : GSt N E D ⟨w0, X, L, M⟩ P r S0 l n G f1 listed k :=
  GSt.one (ι := { x // Z x }) (Ex := fun x => (d, vx x.1) :: E) (Sx := fun x => ⟨w0, X, A ++ Lx x.1, M⟩) hf1 hr hi rfl
    (St.callf hfx hF hargs hperm hc hd fun x hx => St.ex (Ex := fun x : { x // Z x } => (d, vx x.1) :: E) (Sx := fun x : { x // Z x } => (⟨w0, X, A ++ Lx x.1, M⟩ : Sp)) ⟨x, hx⟩)
    (fun x => hC x.1) (fun x => h x.1 x.2)
theorem Cs.own {w : World} {b o k T : Nat} {l vs : List Value} {fr : Nat × Nat} (h : w.heap[b]? = some (.cells l.toArray T fr)) (hg : GetAt o k l vs) : Cs w b o vs := fun j v hj => by
  rw [cell_own h]; exact hg.spec.2 j v hj
theorem Wd.lt {w : World} (h : Wd ⟨w0, X, L, M⟩ w) {b : Nat} {o : Obj} (hm : (b, o) ∈ L) : b < w.heap.size := (Array.getElem?_eq_some_iff.1 (h.own _ hm)).1
theorem Cs.lt {w : World} {b o : Nat} {v : Value} {vs : List Value} (h : Cs w b o (v :: vs)) : b < w.heap.size := block_lt_of_cell (h 0 v rfl)
end
end Go.Proofs.Ytikaonfnaobciaa
