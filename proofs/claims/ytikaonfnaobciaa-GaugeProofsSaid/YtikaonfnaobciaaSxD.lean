/- Entering and leaving a function; calls by contract and calls walked into. -/
import Derived.Test.YtikaonfnaobciaaSxC
namespace Go.Proofs.Ytikaonfnaobciaa
open Go.RowKit

def argE : Nat → List Value → Env
  | _, [] => []
  | n, v :: vs => (n, v) :: argE (n + 1) vs

theorem argE_spec : ∀ (vs : List Value) (n t : Nat) (v : Value), look (argE n vs) t = some v → n ≤ t ∧ vs[t - n]? = some v
  | [], _, _, _, h => by cases h
  | x :: vs, n, t, v, h => by
    simp only [argE, look] at h
    cases hb : Nat.beq n t with
    | true =>
      rw [hb] at h
      have : n = t := Nat.eq_of_beq_eq_true hb
      subst this
      simpa using h
    | false =>
      rw [hb] at h
      have := argE_spec vs (n + 1) t v h
      refine ⟨by omega, ?_⟩
      rw [show t - n = (t - (n + 1)) + 1 by omega]
      simpa using this.2

theorem argE_fr (vs : List Value) (N : Nat) (hN : vs.length ≤ N) : Fr N (argE 0 vs) [] { tmps := vs.toArray ++ Array.replicate (N - vs.toArray.size) undef, defers := [] } := by
  refine ⟨by simp; omega, rfl, fun t v h => ?_⟩
  have := (argE_spec vs 0 t v h).2
  simp only [Nat.sub_zero] at this
  have hlt : t < vs.length := by
    rcases Nat.lt_or_ge t vs.length with h | h
    · exact h
    · simp [h] at this
  simp [Array.getElem?_append, hlt]
  simpa [List.getElem?_eq_getElem hlt] using this

/-- What the operands hold. -/
inductive Args (E : Env) : List Operand → List Value → Prop
  | nil : Args E [] []
  | cons {x : Operand} {v : Value} {xs : List Operand} {vs : List Value} (h : ev E x = some v) (hs : Args E xs vs) : Args E (x :: xs) (v :: vs)

theorem Args.map {N : Nat} {E : Env} {D : List Nat} {a : Act} {xs : List Operand} {vs : List Value} (ha : Fr N E D a) (h : Args E xs vs) : xs.map a.eval = vs := by
  induction h with
  | nil => rfl
  | cons h _ ih => simp [ha.ev h, ih]

/-- The values that are handed back. -/
inductive Res (P : Program) (E : Env) (L : List (Nat × Obj)) : List ResultVar → List Value → Prop
  | nil : Res P E L [] []
  | tmp {t : Nat} {v : Value} {rs : List ResultVar} {vs : List Value} (h : look E t = some v) (hs : Res P E L rs vs) : Res P E L (.tmp t :: rs) (v :: vs)
  | agg {t ty b o k T : Nat} {l ws : List Value} {fr : Nat × Nat} {rs : List ResultVar} {vs : List Value} (h : look E t = some (.pointer (some ⟨b, o, none⟩))) [hu : AG P ty true] [hz : SZ P ty k]
      (hm : (b, Obj.cells l.toArray T fr) ∈ L) (hg : GetAt o k l ws) (hs : Res P E L rs vs) : Res P E L (.cell t ty :: rs) (.agg ws.toArray :: vs)
  | one {t ty b o T : Nat} {l : List Value} {v : Value} {fr : Nat × Nat} {rs : List ResultVar} {vs : List Value} (h : look E t = some (.pointer (some ⟨b, o, none⟩))) [hu : AG P ty false]
      (hm : (b, Obj.cells l.toArray T fr) ∈ L) (hg : GetAt o 1 l [v]) (hs : Res P E L rs vs) : Res P E L (.cell t ty :: rs) (v :: vs)

theorem asAddr_some (x : Addr) : asAddr (.pointer (some x)) = pure x := rfl

def oneOf : List Value → Value
  | [v] => v
  | vs => .tuple vs.toArray

theorem Res.run {P : Program} {E : Env} {w0 : World} {X : List Nat} {L : List (Nat × Obj)} {M : List Nat} {rs : List ResultVar} {vs : List Value} (h : Res P E L rs vs) {N : Nat} {D : List Nat} {a : Act} {w : World} (ha : Fr N E D a) (hw : Wd ⟨w0, X, L, M⟩ w) :
    (rs.mapM (m := Sem) (fun
      | .tmp t => pure (a.tmps.getD t undef)
      | .cell p t => do loadVar t (← asAddr (a.tmps.getD p undef)))).run P w = .ok vs w := by
  have hget : ∀ t v, look E t = some v → a.tmps.getD t undef = v := fun t v h => by
    have := ha.ok t v h
    simp [Array.getD_eq_getD_getElem?, this]
  induction h with
  | nil => simp
  | tmp h _ ih => simp only [List.mapM_cons, Sem.run_bind, Sem.run_pure, Result.andThen_ok, hget _ _ h, ih]
  | @agg t ty b o k T l ws fr rs vs h hu hz hm hg _ ih =>
    simp only [List.mapM_cons, Sem.run_bind, Sem.run_pure, Result.andThen_ok, hget _ _ h, asAddr_some, run_load_agg hu hz.h hg.spec.1 (hw.cs hm hg), ih]
  | @one t ty b o T l v fr rs vs h hu hm hg _ ih =>
    simp only [List.mapM_cons, Sem.run_bind, Sem.run_pure, Result.andThen_ok, hget _ _ h, asAddr_some, run_load_one hu (show w.cell? ⟨b, o, none⟩ = some v from hw.cs hm hg 0 v rfl), ih]

theorem results_run {P : Program} {fn : Func} {E : Env} {w0 : World} {X : List Nat} {L : List (Nat × Obj)} {M : List Nat} {rs : List ResultVar} {vs : List Value} (hfn : fn.results = rs.toArray) (h : Res P E L rs vs) {N : Nat} {D : List Nat} {a : Act} {w : World} (ha : Fr N E D a) (hw : Wd ⟨w0, X, L, M⟩ w) :
    (results fn a.tmps).run P w = .ok (oneOf vs) w := by
  have := h.run ha hw
  unfold results
  rw [hfn]
  simp only [List.mapM_toArray, Sem.run_bind, Sem.run_map]
  erw [this]
  simp only [Result.andThen_ok, Sem.run_pure]
  congr 1
  match vs with
  | [] => rfl
  | [v] => rfl
  | _ :: _ :: _ => simp [oneOf]

abbrev Post (P : Program) (fn : Func) (R : Ending → World → Prop) : Exit → Act → World → Prop := bodyPostM (FR none) 0 P fn R

/-- The marks of the loops over iterators are taken; then the results are handed back. -/
theorem leaves_marks {P : Program} {fn : Func} {R : Ending → World → Prop} {a : Act} {w0 : World} {X : List Nat} {L : List (Nat × Obj)} {M : List Nat} {rs : List ResultVar} {vs : List Value}
    {N : Nat} {E : Env} {D0 : List Nat} (hfn : fn.results = rs.toArray) (hres : Res P E L rs vs) (ha : Fr N E D0 a) (hR : ∀ w, Wd ⟨w0, X, L, M⟩ w → R (.returned (oneOf vs)) w) :
    ∀ (D : List Nat) (w : World), Wd ⟨w0, X, L, D ++ M⟩ w → LeavesInM (FR none) 0 P fn a.tmps R (D.map mark) .returning w
  | [], w, hw => ⟨oneOf vs, results_run hfn hres ha hw, hR w hw⟩
  | d :: D, w, hw => by
    refine ⟨by simp, .inl ⟨d, w.putObj d (.deferred none), rfl, run_takeDeferred (hw.mks d (by simp)), ?_⟩⟩
    have hd := hw.mks d (by simp)
    have hdl : d < w.heap.size := (Array.getElem?_eq_some_iff.1 hd).1
    have hnd := hw.mnd
    simp only [List.cons_append, List.nodup_cons] at hnd
    refine leaves_marks hfn hres ha hR D _ ⟨⟨hw.kp.os, hw.kp.tape, hw.kp.output, by have := hw.kp.size; simp; exact this, fun k hk hx => ?_⟩, ?_, hw.new, hw.nd, ?_, fun r hr => hw.mnew r (by simp at hr ⊢; exact .inr hr), hnd.2, hw.nod⟩
    · have : k ≠ d := fun e => by subst e; exact hx (hw.mnew k (by simp) hk)
      rw [World.putObj_heap_other this]; exact hw.kp.keep k hk hx
    · intro p hp
      have : p.1 ≠ d := fun e => by have h1 := hw.own p hp; rw [e, hd] at h1; injection h1 with h1; have h2 := hw.nod p hp; rw [← h1] at h2; cases h2
      rw [World.putObj_heap_other this]; exact hw.own p hp
    · intro r hr
      have : r ≠ d := fun e => by subst e; exact hnd.1 hr
      rw [World.putObj_heap_other this]; exact hw.mks r (by simp at hr ⊢; exact .inr hr)


section
variable {P : Program} {r : Option Nat} {N : Nat} {E : Env} {D : List Nat} {S : Sp} {Q : Exit → Act → World → Prop} {ops : Array Oper} {rest : List Oper}
variable {d : Nat} {op : Op} {ty : TypeId} {pos : String} {aft : Array Edge} {v : Value} {dst : Option Tmp} {g : Option (Nat × Bool)} {K : Act → World → Prop}
variable {w0 : World} {X : List Nat} {L : List (Nat × Obj)} {M : List Nat}

theorem St.leave {fn : Func} {R : Ending → World → Prop} {rs : List ResultVar} {vs : List Value} (hfn : fn.results = rs.toArray) (hres : Res P E L rs vs) (hR : ∀ w, Wd ⟨w0, X, L, M⟩ w → R (.returned (oneOf vs)) w) :
    St N E D ⟨w0, X, L, D ++ M⟩ (Post P fn R .ret) := fun a w ha hw => by
  show LeavesInM (FR none) 0 P fn a.tmps R a.defers .returning w
  rw [ha.df]
  exact leaves_marks hfn hres ha hR D w hw
theorem St.leave_end {fn : Func} {R : Ending → World → Prop} {rs : List ResultVar} {vs : List Value} (hfn : fn.results = rs.toArray) (hres : Res P E L rs vs) (hR : ∀ w, Wd ⟨w0, X, L, M⟩ w → R (.returned (oneOf vs)) w) :
    St N E D ⟨w0, X, L, D ++ M⟩ (Post P fn R .normal) := fun a w ha hw => by
  show LeavesInM (FR none) 0 P fn a.tmps R a.defers .returning w
  rw [ha.df]
  exact leaves_marks hfn hres ha hR D w hw

theorem enterIn {k : Nat} {fn : Func} {c : Code} {vs : List Value} {R : Ending → World → Prop} {w : World} (hf : P.funcs[k]? = some fn) (hb : fn.body = some c) (hN : fn.ntmps = N) (hl : Nat.ble vs.length N = true) (hw : Wd S w)
    (h : St N (argE 0 vs) [] S (c.wpIn (FR none) 0 P (Post P fn R))) : CallsIn (FR none) 0 P k vs.toArray w R := by
  refine callsIn_of_wp_marks hf hb trivial ?_
  rw [hN]
  exact h _ w (argE_fr vs N (by simpa using hl)) hw
theorem enter {k : Nat} {fn : Func} {c : Code} {vs : List Value} {R : Ending → World → Prop} {w : World} (hf : P.funcs[k]? = some fn) (hb : fn.body = some c) (hN : fn.ntmps = N) (hl : Nat.ble vs.length N = true) (hw : Wd S w)
    (h : St N (argE 0 vs) [] S (c.wpIn (FR none) 0 P (Post P fn R))) : Calls P k vs.toArray w R := callsIn_wide.1 (enterIn hf hb hN hl hw h)

/-- A call that begins with nothing of its own. -/
theorem wd_start (w : World) : Wd ⟨w, [], [], []⟩ w := ⟨Kp.refl _ _, by simp, by simp, by simp, by simp, by simp, by simp, by simp⟩

theorem callsIn_FR {n : Nat} {k : Nat} {args : Array Value} {w : World} {R : Ending → World → Prop} (h : Calls P k args w R) : CallsIn (FR r) n P k args w R := by
  have := callsIn_wide (n := n) |>.2 h
  exact this
theorem callsIn_FR' {n : Nat} {k : Nat} {args : Array Value} {w : World} {R : Ending → World → Prop} (h : CallsIn (FR none) n P k args w R) : CallsIn (FR r) n P k args w R := h

class FN (P : Program) (k : Nat) (fn : outParam Func) : Prop where
  h : P.funcs[k]? = some fn
  nm : (fn.name == "runtime.NumGoroutine") = false
  bd : fn.body.isNone = false

theorem run_enterFn {k : Nat} {fn : Func} [f : FN P k fn] (args : Array Value) (w : World) : (callFunc k args).run P w = .ok (.enter k args) w := by
  unfold callFunc
  simp only [Sem.run_bind, run_program, Result.andThen_ok, f.h, f.nm, f.bd, Bool.false_eq_true, if_false, Sem.run_pure]

theorem run_call {f : Operand} {k : Nat} {fn : Func} {fs cs vs : List Value} {args : List Operand} {ats : Array TypeId} {a : Act} {w : World} [FN P k fn] (ha : Fr N E D a) (hfx : ev E f = some (.func (.func k) fs.toArray cs.toArray)) (hargs : Args E args vs) :
    (execOp a.eval ⟨dst, .call { callee := .value f, args := args.toArray, argTypes := ats }, ty, pos, aft, g⟩).run P w = .ok (.enter k (fs ++ vs ++ cs).toArray) w := by
  have hm : args.toArray.map a.eval = vs.toArray := by rw [List.map_toArray, hargs.map ha]
  simp only [execOp, resolve, ha.ev hfx, Deferred.ofValue, hm, Sem.run_bind, Sem.run_pure, Result.andThen_ok, invoke]
  rw [run_enterFn]
  simp

theorem St.call_gen {f : Operand} {k : Nat} {fn : Func} {fs cs vs : List Value} {args : List Operand} {ats : Array TypeId} {R : World → Ending → World → Prop} (hfx : ev E f = some (.func (.func k) fs.toArray cs.toArray)) (hargs : Args E args vs) [FN P k fn]
    (hc : ∀ w, Wd S w → CallsIn (FR none) 0 P k (fs ++ vs ++ cs).toArray w (R w))
    (h : ∀ w e w', Wd S w → R w e w' → ∃ v, e = .returned v ∧ ∀ a, Fr N E D a → K (a.put dst v) w') :
    St N E D S (Op1 P r ⟨dst, .call { callee := .value f, args := args.toArray, argTypes := ats }, ty, pos, aft, g⟩ K) := fun a w ha hw => by
  unfold Op1
  rw [run_call ha hfx hargs]
  refine CallsIn.mono (hc w hw) fun e w' he => ?_
  obtain ⟨v, rfl, hk⟩ := h w e w' hw he
  exact ⟨v, rfl, hk a ha⟩

/-- The callee hands back v, and leaves alone all that lay. -/
def Pure_ (P : Program) (k : Nat) (args : List Value) (v : Value) (w : World) : Prop := Calls P k args.toArray w fun e w' => e = .returned v ∧ Kp [] w w'

theorem St.call_val {f : Operand} {k : Nat} {fn : Func} {fs cs vs : List Value} {args : List Operand} {ats : Array TypeId} (hfx : ev E f = some (.func (.func k) fs.toArray cs.toArray)) (hargs : Args E args vs) [FN P k fn]
    (hc : ∀ w, Wd S w → Pure_ P k (fs ++ vs ++ cs) v w) (hd : Nat.blt d N = true) (h : St N ((d, v) :: E) D S K) :
    St N E D S (Op1 P r ⟨some d, .call { callee := .value f, args := args.toArray, argTypes := ats }, ty, pos, aft, g⟩ K) :=
  St.call_gen hfx hargs (R := fun w e w' => e = .returned v ∧ Kp [] w w') (fun w hw => callsIn_FR (hc w hw))
    fun _ _ w' hw ⟨he, hk⟩ => ⟨v, he, fun _ ha => h _ w' (ha.put v (by simpa using hd)) (hw.kept hk)⟩

/-- The call is walked into. -/
theorem St.call_in {f : Operand} {k : Nat} {fn : Func} {c : Code} {N' : Nat} {fs cs vs : List Value} {args : List Operand} {ats : Array TypeId} (hfx : ev E f = some (.func (.func k) fs.toArray cs.toArray)) (hargs : Args E args vs) [hF : FN P k fn]
    (hb : fn.body = some c) (hN : fn.ntmps = N') (hl : Nat.ble (fs ++ vs ++ cs).length N' = true)
    (h : ∀ a, Fr N E D a → St N' (argE 0 (fs ++ vs ++ cs)) [] S (c.wpIn (FR none) 0 P (Post P fn fun e w' => ∃ v, e = .returned v ∧ K (a.put dst v) w'))) :
    St N E D S (Op1 P r ⟨dst, .call { callee := .value f, args := args.toArray, argTypes := ats }, ty, pos, aft, g⟩ K) := fun a w ha hw => by
  unfold Op1
  rw [run_call ha hfx hargs]
  refine CallsIn.mono (enterIn hF.h hb hN hl hw (h a ha)) ?_
  rintro e w' ⟨v, rfl, hk⟩
  exact ⟨v, rfl, hk⟩

/-- Back in the caller. -/
theorem St.back {a : Act} {w : World} (ha : Fr N E D a) (hw : Wd S w) (hd : Nat.blt d N = true) (h : St N ((d, v) :: E) D S K) :
    ∃ u, Ending.returned v = .returned u ∧ K (a.put (some d) u) w := ⟨v, rfl, h _ w (ha.put v (by simpa using hd)) hw⟩
theorem St.back0 {a : Act} {w : World} (ha : Fr N E D a) (hw : Wd S w) (h : St N E D S K) :
    ∃ u, Ending.returned v = .returned u ∧ K (a.put none u) w := ⟨v, rfl, h _ w (ha.put_none v) hw⟩
end

end Go.Proofs.Ytikaonfnaobciaa
