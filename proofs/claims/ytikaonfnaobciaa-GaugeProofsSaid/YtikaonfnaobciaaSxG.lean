/- Loops over iterators. -/
import Derived.Test.YtikaonfnaobciaaSxF
namespace Go.Proofs.Ytikaonfnaobciaa
open Go.RowKit
set_option linter.unusedSimpArgs false
set_option linter.unusedVariables false

/-! ### Worlds put together -/
theorem pw_perm {L L' : List (Nat × Obj)} (hp : L.Perm L') (h : L.Pairwise (fun p q => p.1 ≠ q.1)) : L'.Pairwise (fun p q => p.1 ≠ q.1) :=
  hp.pairwise h (fun h => Ne.symm h)
theorem Wd.perm {w0 : World} {X M : List Nat} {L L' : List (Nat × Obj)} {w : World} (h : Wd ⟨w0, X, L, M⟩ w) (hp : L.Perm L') : Wd ⟨w0, X, L', M⟩ w :=
  ⟨h.kp, fun p hq => h.own p (hp.mem_iff.2 hq), fun p hq => h.new p (hp.mem_iff.2 hq), pw_perm hp h.nd, h.mks, h.mnew, h.mnd, fun p hq => h.nod p (hp.mem_iff.2 hq)⟩

/-- A callee (or a round) begins, with some of the blocks its own. -/
theorem Wd.enter {w0 : World} {X M : List Nat} {A L : List (Nat × Obj)} {w : World} (h : Wd ⟨w0, X, A ++ L, M⟩ w) : Wd ⟨w, L.map (·.1), L, []⟩ w :=
  ⟨Kp.refl _ _, fun p hp => h.own p (List.mem_append_right _ hp), fun p hp _ => List.mem_map_of_mem hp, (List.pairwise_append.1 h.nd).2.1, by simp, by simp, by simp, fun p hp => h.nod p (List.mem_append_right _ hp)⟩

/-- .. and has ended. -/
theorem Wd.frame {w0 : World} {X Z M M' : List Nat} {A L L' : List (Nat × Obj)} {w w' : World} (h : Wd ⟨w0, X, A ++ L, M⟩ w) (hz : ∀ z ∈ Z, z ∈ L.map (·.1)) (h' : Wd ⟨w, Z, L', M'⟩ w') : Wd ⟨w0, X, A ++ L', M⟩ w' := by
  have hzL : ∀ z ∈ Z, ∃ p ∈ L, p.1 = z := fun z hz' => List.mem_map.1 (hz z hz')
  have hsep : ∀ p ∈ A, ∀ z ∈ Z, p.1 ≠ z := fun p hp z hz' => by
    obtain ⟨q, hq, rfl⟩ := hzL z hz'
    exact (List.pairwise_append.1 h.nd).2.2 p hp q hq
  have hA : ∀ p ∈ A, w'.heap[p.1]? = some p.2 := fun p hp => by
    have h1 := h.own p (List.mem_append_left _ hp)
    rw [h'.kp.keep p.1 (Array.getElem?_eq_some_iff.1 h1).1 (fun hx => hsep p hp _ hx rfl)]; exact h1
  have hL : ∀ p ∈ L', p.1 < w.heap.size → ∃ q ∈ L, q.1 = p.1 := fun p hp hl => hzL _ (h'.new p hp hl)
  refine ⟨h.kp.trans h'.kp fun z hz' hl => ?_, fun p hp => ?_, fun p hp hl => ?_, ?_, fun r hr => ?_, h.mnew, h.mnd, fun p hp => ?_⟩
  · obtain ⟨q, hq, rfl⟩ := hzL z hz'
    exact h.new q (List.mem_append_right _ hq) hl
  · rcases List.mem_append.1 hp with hp | hp
    · exact hA p hp
    · exact h'.own p hp
  · rcases List.mem_append.1 hp with hp | hp
    · exact h.new p (List.mem_append_left _ hp) hl
    · obtain ⟨q, hq, e⟩ := hL p hp (Nat.lt_of_lt_of_le hl h.kp.size)
      have := h.new q (List.mem_append_right _ hq)
      rw [e] at this
      exact this hl
  · refine List.pairwise_append.2 ⟨(List.pairwise_append.1 h.nd).1, h'.nd, fun p hp q hq e => ?_⟩
    have hl : p.1 < w.heap.size := (Array.getElem?_eq_some_iff.1 (h.own p (List.mem_append_left _ hp))).1
    exact hsep p hp q.1 (h'.new q hq (e ▸ hl)) e
  · have h1 := h.mks r hr
    rw [h'.kp.keep r (Array.getElem?_eq_some_iff.1 h1).1 (fun hx => ?_)]; · exact h1
    obtain ⟨q, hq, e⟩ := hzL r hx
    have h2 := h.own q (List.mem_append_right _ hq)
    have h3 := h.nod q (List.mem_append_right _ hq)
    rw [e, h1] at h2
    injection h2 with h2
    rw [← h2] at h3; cases h3
  · rcases List.mem_append.1 hp with hp | hp
    · exact h.nod p (List.mem_append_left _ hp)
    · exact h'.nod p hp

/-! ### Rounds -/
/-- yield of the loop lp is called with args: R takes what it hands back. -/
def Yld (P : Program) (lp : Nat) (args : List Value) (w : World) (R : Value → World → Prop) : Prop :=
  ∃ rec : Loop, w.heap[lp]? = some (.loop rec) ∧ args.length = rec.params.size ∧
    RoundIn (FR none) 0 P lp rec.fn ((rec.params.zip args.toArray).foldl (fun tmps (t, a) => tmps.setIfInBounds t a) rec.tmps) rec.assign rec.body w (fun e w' => ∃ v, e = .returned v ∧ R v w')

theorem Yld.mono {P : Program} {lp : Nat} {args : List Value} {w : World} {R R' : Value → World → Prop} (h : Yld P lp args w R) (hr : ∀ v w', R v w' → R' v w') : Yld P lp args w R' := by
  obtain ⟨rec, h1, h2, h3⟩ := h
  exact ⟨rec, h1, h2, RoundIn.mono h3 fun e w' ⟨v, he, hk⟩ => ⟨v, he, hr v w' hk⟩⟩

def parE : List Tmp → List Value → Env → Env
  | p :: ps, v :: vs, E => parE ps vs ((p, v) :: E)
  | _, _, E => E

theorem parE_fr {N : Nat} : ∀ (ps : List Tmp) (vs : List Value) (E : Env) (ts : Array Value), ps.length = vs.length → (ps.all fun p => Nat.blt p N) = true → Fr N E [] ⟨ts, []⟩ →
    Fr N (parE ps vs E) [] ⟨(ps.toArray.zip vs.toArray).foldl (fun tmps (t, a) => tmps.setIfInBounds t a) ts, []⟩
  | [], [], _, _, _, _, h => by simpa [parE] using h
  | p :: ps, v :: vs, E, ts, hl, hN, h => by
    simp only [List.all_cons, Bool.and_eq_true] at hN
    have := parE_fr ps vs ((p, v) :: E) (ts.setIfInBounds p v) (by simpa using hl) hN.2 (by simpa [Act.put] using h.put v (by simpa using hN.1))
    have he : (((p :: ps).toArray.zip (v :: vs).toArray).foldl (fun tmps (t, a) => tmps.setIfInBounds t a) ts) = ((ps.toArray.zip vs.toArray).foldl (fun tmps (t, a) => tmps.setIfInBounds t a) (ts.setIfInBounds p v)) := by
      rw [← Array.foldl_toList, ← Array.foldl_toList]
      simp
    rw [he]
    exact this

section
variable {P : Program} {r : Option Nat} {N : Nat} {E : Env} {D : List Nat} {S : Sp} {Q : Exit → Act → World → Prop} {ops : Array Oper} {rest : List Oper}
variable {d : Nat} {op : Op} {ty : TypeId} {pos : String} {aft : Array Edge} {v : Value} {dst : Option Tmp} {g : Option (Nat × Bool)} {K : Act → World → Prop}
variable {w0 : World} {X : List Nat} {L L' : List (Nat × Obj)} {M : List Nat}

theorem run_yieldCall {f : Operand} {lp : Nat} {vs : List Value} {args : List Operand} {ats : Array TypeId} {a : Act} {w : World} (ha : Fr N E D a) (hfx : ev E f = some (.func (.yield lp) #[] #[])) (hargs : Args E args vs) :
    (execOp a.eval ⟨dst, .call { callee := .value f, args := args.toArray, argTypes := ats }, ty, pos, aft, g⟩).run P w = (Instr.yield lp vs.toArray).run P w := by
  have hm : args.toArray.map a.eval = vs.toArray := by rw [List.map_toArray, hargs.map ha]
  simp only [execOp, resolve, ha.ev hfx, Deferred.ofValue, hm, Sem.run_bind, Sem.run_pure, Result.andThen_ok, invoke]
  simp

theorem St.yield {f : Operand} {lp : Nat} {vs : List Value} {args : List Operand} {ats : Array TypeId} {R : World → Value → World → Prop} (hfx : ev E f = some (.func (.yield lp) #[] #[])) (hargs : Args E args vs)
    (hy : ∀ w, Wd S w → Yld P lp vs w (R w)) (h : ∀ w v w', Wd S w → R w v w' → ∀ a, Fr N E D a → K (a.put dst v) w') :
    St N E D S (Op1 P r ⟨dst, .call { callee := .value f, args := args.toArray, argTypes := ats }, ty, pos, aft, g⟩ K) := fun a w ha hw => by
  unfold Op1
  rw [run_yieldCall ha hfx hargs]
  obtain ⟨rec, h1, h2, h3⟩ := hy w hw
  rw [run_yield h1 (by simpa using h2)]
  have h4 : RoundIn (FR r) 0 P lp rec.fn _ rec.assign rec.body w _ := h3
  exact RoundIn.mono h4 fun e w' ⟨v, he, hk⟩ => ⟨v, he, h w v w' hw hk a ha⟩

/-- A round, out of its body's walk. -/
theorem yld_of {lp : Nat} {rec : Loop} {ps : List Tmp} {vs : List Value} {R : Value → World → Prop} {w : World} (hrec : w.heap[lp]? = some (.loop rec)) (hps : rec.params = ps.toArray) (hlen : ps.length = vs.length) (hN : (ps.all fun p => Nat.blt p N) = true)
    (ha : Fr N E [] ⟨rec.tmps, []⟩) (hw : Wd S w)
    (h : St N (parE ps vs E) [] S (rec.assign.wpIn (FR (some lp)) 0 P (Exit.then (fun a₁ w₁ => ∃ w₂, (Instr.beginRound lp).run P w₁ = .ok () w₂ ∧ rec.body.wpIn (FR (some lp)) 0 P (roundPost P lp fun e w' => ∃ v, e = .returned v ∧ R v w') a₁ w₂) (fun _ _ _ => False)))) :
    Yld P lp vs w R := by
  refine ⟨rec, hrec, by rw [hps]; simpa using hlen.symm, ?_⟩
  rw [hps]
  exact roundIn_of_wpIn (F := FR none) trivial (h _ w (parE_fr ps vs E rec.tmps hlen hN ha) hw)

theorem Wd.put {b : Nat} {o o' : Obj} {w : World} (h : Wd ⟨w0, X, L, M⟩ w) (hr : Rep b o o' L L') (hnd : isDef o' = false) : Wd ⟨w0, X, L', M⟩ (w.putObj b o') := by
  have hb := h.own _ hr.mem
  exact h.turn (S := ⟨w0, X, L, M⟩) hr hnd rfl rfl rfl (by simp) (World.putObj_heap_same (Array.getElem?_eq_some_iff.1 hb).1) (fun k hk => World.putObj_heap_other hk)

theorem St.begin {lp : Nat} {rec : Loop} {body : Code} {Q : Exit → Act → World → Prop} (hready : rec.state = .ready) (hr : Rep lp (.loop rec) (.loop { rec with state := .busy }) L L')
    (h : St N E D ⟨w0, X, L', M⟩ (body.wpIn (FR (some lp)) 0 P Q)) :
    St N E D ⟨w0, X, L, M⟩ (fun a₁ w₁ => ∃ w₂, (Instr.beginRound lp).run P w₁ = .ok () w₂ ∧ body.wpIn (FR (some lp)) 0 P Q a₁ w₂) := fun a w ha hw =>
  ⟨_, run_beginRound (hw.own _ hr.mem) hready, h a _ ha (hw.put hr rfl)⟩

theorem St.round_end {lp : Nat} {rec : Loop} {R : Ending → World → Prop} (hr : Rep lp (.loop rec) (.loop { rec with state := .ready, pending := none }) L L')
    (h : ∀ w, Wd ⟨w0, X, L', M⟩ w → R (.returned (.bool true)) w) : St N E D ⟨w0, X, L, M⟩ (roundPost P lp R .normal) := fun a w ha hw =>
  ⟨_, _, run_endRound none (hw.own _ hr.mem), h _ (hw.put hr rfl)⟩
theorem St.round_ret {lp : Nat} {rec : Loop} {R : Ending → World → Prop} (hr : Rep lp (.loop rec) (.loop { rec with state := .done, pending := some .ret }) L L')
    (h : ∀ w, Wd ⟨w0, X, L', M⟩ w → R (.returned (.bool false)) w) : St N E D ⟨w0, X, L, M⟩ (roundPost P lp R .ret) := fun a w ha hw =>
  ⟨_, _, run_endRound (some .ret) (hw.own _ hr.mem), h _ (hw.put hr rfl)⟩
theorem St.round_exit {lp i : Nat} {rec : Loop} {R : Ending → World → Prop} (hr : Rep lp (.loop rec) (.loop { rec with state := .done, pending := some (.exit i) }) L L')
    (h : ∀ w, Wd ⟨w0, X, L', M⟩ w → R (.returned (.bool false)) w) : St N E D ⟨w0, X, L, M⟩ (roundPost P lp R (.exit i)) := fun a w ha hw =>
  ⟨_, _, run_endRound (some (.exit i)) (hw.own _ hr.mem), h _ (hw.put hr rfl)⟩

/-- The loop: the call of the iterator, told of the blocks at its end; what is done behind it. -/
theorem St.range {g : Operand} {ps : Array Tmp} {assign body : Code} {k : Nat} {fn : Func} {fs cs : List Value} {ι : Type} {Lx : ι → List (Nat × Obj)} {px : ι → Option Code}
    (hg : ev E g = some (.func (.func k) fs.toArray cs.toArray)) [FN P k fn]
    (h : ∀ fid ts b lp w, Fr N E [] ⟨ts, []⟩ → Wd ⟨w0, X, (lp, .loop ⟨.ready, none, fid, ts, ps, assign, body, b⟩) :: L, b :: M⟩ w →
      CallsIn (FR none) 0 P k (fs ++ [Value.func (.yield lp) #[] #[]] ++ cs).toArray w fun e w' => ∃ v, e = .returned v ∧ ∃ x st, st ≠ .busy ∧ Wd ⟨w0, X, (lp, .loop ⟨st, px x, fid, ts, ps, assign, body, b⟩) :: Lx x, b :: M⟩ w')
    (hn : ∀ x b, px x = none → St N E (b :: D) ⟨w0, X, Lx x, b :: M⟩ (Q .normal))
    (hc : ∀ x b c, px x = some c → St N E (b :: D) ⟨w0, X, Lx x, b :: M⟩ (c.wpIn (FR none) 0 P Q)) :
    St N E D ⟨w0, X, L, M⟩ ((Code.rangeFunc g ps assign body).wpIn (FR none) 0 P Q) := fun a w ha hw => by
  refine wpIn_rangeFunc fun fid _ => ?_
  have hev : ∀ l, (resolve a.eval (rangeCall g l) 0).run P = fun w1 => .ok { target := .fn (.func k) cs.toArray, args := fs.toArray ++ #[Value.func (.yield l) #[] #[]] } w1 := fun l => by
    funext w1
    simp only [resolve, rangeCall, ha.ev hg, Deferred.ofValue, Sem.run_bind, Sem.run_pure, Result.andThen_ok]
    simp [Act.eval]
  have hold : ∀ o : Obj, ∀ k, k < w.heap.size → (w.alloc o).heap[k]? = w.heap[k]? := fun o k hk => Below.heap_alloc w o k hk
  -- the two new blocks
  have hw1 : Wd ⟨w0, X, L, w.heap.size :: M⟩ (w.alloc (.deferred (some []))) := by
    refine ⟨⟨hw.kp.os, hw.kp.tape, hw.kp.output, by have := hw.kp.size; simp only [World.size_alloc] at *; omega, fun j hj hx => ?_⟩, fun p hp => ?_, hw.new, hw.nd, fun r hr => ?_, fun r hr hl => ?_, ?_, hw.nod⟩
    · have hs := hw.kp.size; rw [hold _ j (Nat.lt_of_lt_of_le hj hs)]; exact hw.kp.keep j hj hx
    · rw [hold _ p.1 (Array.getElem?_eq_some_iff.1 (hw.own p hp)).1]; exact hw.own p hp
    · rcases List.mem_cons.1 hr with rfl | hr
      · exact World.alloc_heap_new w _
      · rw [hold _ r (Array.getElem?_eq_some_iff.1 (hw.mks r hr)).1]; exact hw.mks r hr
    · rcases List.mem_cons.1 hr with rfl | hr
      · have hs := hw.kp.size; exact absurd hl (Nat.not_lt.2 hs)
      · exact hw.mnew r hr hl
    · refine List.nodup_cons.2 ⟨fun hm => ?_, hw.mnd⟩
      have := (Array.getElem?_eq_some_iff.1 (hw.mks _ hm)).1; omega
  have hw2 := hw1.alloc (.loop ⟨.ready, none, fid, a.tmps, ps, assign, body, w.heap.size⟩)
  have hsz : (w.alloc (.deferred (some []))).heap.size = w.heap.size + 1 := by simp
  rw [hsz] at hw2
  have hts : Fr N E [] ⟨a.tmps, []⟩ := ⟨ha.sz, rfl, ha.ok⟩
  refine ⟨w.heap.size + 1, _, _, _, _, k, (fs ++ [Value.func (.yield (w.heap.size + 1)) #[] #[]] ++ cs).toArray, (w.alloc (.deferred (some []))).alloc (.loop ⟨.ready, none, fid, a.tmps, ps, assign, body, w.heap.size⟩), run_enterLoop_outer fid a.tmps ps assign body, by rw [hev], fun _ _ => trivial, ?_, fun h => (by cases h), ?_⟩
  · simp only [invoke]
    rw [run_enterFn]
    simp
  · refine CallsIn.mono (h fid a.tmps w.heap.size (w.heap.size + 1) _ hts hw2) ?_
    rintro e w' ⟨v, rfl, x, st, hst, hx⟩
    have hrun := run_endLoop (P := P) (hx.own _ (.head _)) hst
    have hput := hx.put (b := w.heap.size + 1) (o' := .loop ⟨.exhausted, px x, fid, a.tmps, ps, assign, body, w.heap.size⟩) .head rfl
    have hsub : Wd ⟨w0, X, Lx x, w.heap.size :: M⟩ _ := hput.sub (List.sublist_cons_self _ _)
    have hfr : Fr N E (w.heap.size :: D) { a with defers := [{ target := .collected w.heap.size, args := #[] }] ++ a.defers } := ⟨ha.sz, by simp [ha.df, mark], ha.ok⟩
    refine ⟨px x, _, hrun, ?_⟩
    cases hp : px x with
    | none => rw [hp] at hsub; exact hn x _ hp _ _ hfr hsub
    | some c => rw [hp] at hsub; exact hc x _ c hp _ _ hfr hsub
end
end Go.Proofs.Ytikaonfnaobciaa
