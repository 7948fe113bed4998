/- More single operations. -/
import Derived.Test.YtikaonfnaobciaaSxI
namespace Go.Proofs.Ytikaonfnaobciaa
open Go.RowKit
set_option linter.unusedVariables false
section
variable {P : Program} {N : Nat} {E : Env} {D : List Nat} {S : Sp} {ty : TypeId} {pos : String} {aft : Array Edge} {v : Value} {dst : Option Tmp} {g : Option (Nat × Bool)} {w0 : World} {X : List Nat} {L : List (Nat × Obj)} {M : List Nat}
theorem Y.extractv {x : Operand} {i : Nat} {vs : List Value} (h : ev E x = some (.tuple vs.toArray)) (hi : nthV vs i = some v) : Y P N E D S ⟨dst, .extract x i, ty, pos, aft, g⟩ v := Y.extract h (by simpa using nthV_spec _ _ _ hi)
theorem Y.lookup_hit {t kt et : TypeId} {q : IntKind} {x i : Operand} {B j : Nat} {T : Tab} {c : Nat} {k : Int} {z : Value} [u : UL P t (.map kt et)] [uk : UL P kt (.int q)] [zv : ZV P et z] (hx : ev E x = some (.map (some B))) (hi : ev E i = some (.int .i64 k))
    (hm : (B, Obj.map (mkEs T).toArray c) ∈ L) (hq : tabIx T k 0 = some (j, v)) : Y P N E D ⟨w0, X, L, M⟩ ⟨dst, .lookup t x i true, ty, pos, aft, g⟩ (.tuple [v, .bool true].toArray) := by
  have := Y.lookup (P := P) (t := t) (kt := kt) (et := et) (q := q) (N := N) (E := E) (D := D) (w0 := w0) (X := X) (M := M) (dst := dst) (ty := ty) (pos := pos) (aft := aft) (g := g) (z := z) hx hi hm
  rw [hq] at this; simpa using this
theorem Y.lookup_miss {t kt et : TypeId} {q : IntKind} {x i : Operand} {B : Nat} {T : Tab} {c : Nat} {k : Int} {z : Value} [u : UL P t (.map kt et)] [uk : UL P kt (.int q)] [zv : ZV P et z] (hx : ev E x = some (.map (some B))) (hi : ev E i = some (.int .i64 k))
    (hm : (B, Obj.map (mkEs T).toArray c) ∈ L) (hq : tabIx T k 0 = none) : Y P N E D ⟨w0, X, L, M⟩ ⟨dst, .lookup t x i true, ty, pos, aft, g⟩ (.tuple [z, .bool false].toArray) := by
  have := Y.lookup (P := P) (t := t) (kt := kt) (et := et) (q := q) (N := N) (E := E) (D := D) (w0 := w0) (X := X) (M := M) (dst := dst) (ty := ty) (pos := pos) (aft := aft) (g := g) (z := z) hx hi hm
  rw [hq] at this; simpa using this
end
section
variable {P : Program} {r : Option Nat} {N : Nat} {E : Env} {D : List Nat} {φ K : Act → World → Prop} {w0 : World} {X : List Nat} {L L' : List (Nat × Obj)} {M : List Nat}
variable {d : Nat} {ty : TypeId} {pos : String} {aft : Array Edge} {v : Value} {g : Option (Nat × Bool)} {fo : Operand} {kf : Nat} {fn : Func} {fs cs vs : List Value} {args : List Operand} {ats : Array TypeId}
theorem St.permL (hp : L.Perm L') (h : St N E D ⟨w0, X, L', M⟩ φ) : St N E D ⟨w0, X, L, M⟩ φ := fun a w ha hw => h a w ha (hw.perm hp)
theorem St.calln {ι : Type} {Z : ι → Prop} {Lx : ι → List (Nat × Obj)} {vx : ι → Value}
    (hfx : ev E fo = some (.func (.func kf) fs.toArray cs.toArray)) (hF : FN P kf fn) (hargs : Args E args vs)
    (hc : ∀ w, Kp X w0 w → Wd ⟨w0, X, L, M⟩ w → Calls P kf (fs ++ vs ++ cs).toArray w fun e w' => ∃ x, e = .returned (vx x) ∧ Z x ∧ Wd ⟨w, [], Lx x, []⟩ w')
    (hd : Nat.blt d N = true) (h : ∀ x, Z x → St N ((d, vx x) :: E) D ⟨w0, X, Lx x ++ L, M⟩ K) :
    St N E D ⟨w0, X, L, M⟩ (Op1 P r ⟨some d, .call { callee := .value fo, args := args.toArray, argTypes := ats }, ty, pos, aft, g⟩ K) :=
  St.call_gen hfx hargs (R := fun w e w' => ∃ x, e = .returned (vx x) ∧ Z x ∧ Wd ⟨w, [], Lx x, []⟩ w')
    (fun w hw => callsIn_FR (hc w hw.kp hw))
    fun w e w' hw ⟨x, he, hz, hk⟩ => ⟨vx x, he, fun _ ha => h x hz _ w' (ha.put _ (by simpa using hd)) (((hw.perm (L' := L ++ []) (by rw [List.append_nil])).frame (fun z hz => by cases hz) hk).perm List.perm_append_comm)⟩
theorem St.rangew {Q : Exit → Act → World → Prop} {g : Operand} {ps : Array Tmp} {assign body : Code} {ι : Type} {Z : ι → Prop} {Lx : ι → List (Nat × Obj)} {px : ι → Option Code}
    (hg : ev E g = some (.func (.func kf) fs.toArray cs.toArray)) (hF : FN P kf fn)
    (h : ∀ (rec : Loop) b lp w, rec.state = .ready → rec.pending = none → rec.params = ps → rec.assign = assign → rec.body = body → Fr N E [] ⟨rec.tmps, []⟩ → Wd ⟨w0, X, (lp, .loop rec) :: L, b :: M⟩ w →
      Calls P kf (fs ++ [Value.func (.yield lp) #[] #[]] ++ cs).toArray w fun e w' => ∃ v, e = .returned v ∧ ∃ x st, st ≠ .busy ∧ Z x ∧ Wd ⟨w0, X, (lp, .loop { rec with state := st, pending := px x }) :: Lx x, b :: M⟩ w')
    (hn : ∀ x b, Z x → px x = none → St N E (b :: D) ⟨w0, X, Lx x, b :: M⟩ (Q .normal))
    (hc : ∀ x b c, Z x → px x = some c → St N E (b :: D) ⟨w0, X, Lx x, b :: M⟩ (c.wpIn (FR none) 0 P Q)) :
    St N E D ⟨w0, X, L, M⟩ ((Code.rangeFunc g ps assign body).wpIn (FR none) 0 P Q) :=
  St.rangev (Z := Z) (Lx := Lx) (px := px) hg hF (fun fid ts b lp w hts hw => callsIn_FR (h ⟨.ready, none, fid, ts, ps, assign, body, b⟩ b lp w rfl rfl rfl rfl rfl hts hw)) hn hc
theorem loop_eta2 {rec : Loop} (h1 : rec.state = .ready) (h2 : rec.pending = none) : ({ ({ rec with state := .busy } : Loop) with state := .ready, pending := none } : Loop) = rec := by cases rec; simp_all
theorem Wd.sep {A Lc : List (Nat × Obj)} {w : World} (h : Wd ⟨w0, X, A ++ Lc, M⟩ w) {q : Nat} {o : Obj} (hq : (q, o) ∈ A) : q ∉ Lc.map (·.1) := fun hm => by
  obtain ⟨p, hp, e⟩ := List.mem_map.1 hm
  exact (List.pairwise_append.1 h.nd).2.2 (q, o) hq p hp e.symm
theorem loop_eta {rec : Loop} (h1 : rec.state = .ready) (h2 : rec.pending = none) : ({ rec with state := .ready, pending := none } : Loop) = rec := by cases rec; simp_all
end
end Go.Proofs.Ytikaonfnaobciaa
