/- Loops, put handily. -/
import Derived.Test.YtikaonfnaobciaaSxH
namespace Go.Proofs.Ytikaonfnaobciaa
open Go.RowKit
set_option linter.unusedVariables false
section
variable {P : Program} {r : Option Nat} {N : Nat} {E E' : Env} {D : List Nat} {Q : Exit → Act → World → Prop} {w0 : World} {X : List Nat} {L L' : List (Nat × Obj)} {M : List Nat}

/-- Another round comes. -/
def Again {ι : Type} (N : Nat) (EI : ι → Env) (SI : ι → Sp) (DI : ι → List Nat) (I : ι → Prop) (μ : ι → Nat) (m : Nat) (a : Act) (w : World) : Prop := ∃ j, I j ∧ μ j < m ∧ Fr N (EI j) (DI j) a ∧ Wd (SI j) w

theorem St.loopS {ι : Type} {c : Code} (A : ι → Env) (LA : ι → List (Nat × Obj)) (I : ι → Prop) (μ : ι → Nat) (i₀ : ι) (hI : I i₀) (hE : Sub (A i₀ ++ E') E) (hS : ∀ w, Wd ⟨w0, X, L, M⟩ w → Wd ⟨w0, X, LA i₀ ++ L', M⟩ w)
    (round : ∀ i, I i → St N (A i ++ E') D ⟨w0, X, LA i ++ L', M⟩ (c.wpIn (FR r) 0 P (Exit.then (Again N (fun i => A i ++ E') (fun i => ⟨w0, X, LA i ++ L', M⟩) (fun _ => D) I μ (μ i)) Q))) :
    St N E D ⟨w0, X, L, M⟩ ((Code.loop c).wpIn (FR r) 0 P Q) :=
  St.loop (fun i => A i ++ E') (fun i => ⟨w0, X, LA i ++ L', M⟩) (fun _ => D) I μ i₀ hI rfl hE hS round

theorem St.loopD {ι : Type} {c : Code} (A : ι → Env) (LA : ι → List (Nat × Obj)) (DA : ι → List Nat) (I : ι → Prop) (μ : ι → Nat) (i₀ : ι) (hI : I i₀) (hD : DA i₀ = D) {M' : List Nat} (hM : DA i₀ ++ M = M') (hE : Sub (A i₀ ++ E') E) {L1 : List (Nat × Obj)} (hS : ∀ w, Wd ⟨w0, X, L, M'⟩ w → Wd ⟨w0, X, LA i₀ ++ L1, DA i₀ ++ M⟩ w)
    (round : ∀ i, I i → St N (A i ++ E') (DA i) ⟨w0, X, LA i ++ L1, DA i ++ M⟩ (c.wpIn (FR r) 0 P (Exit.then (Again N (fun i => A i ++ E') (fun i => ⟨w0, X, LA i ++ L1, DA i ++ M⟩) DA I μ (μ i)) Q))) : 
    St N E D ⟨w0, X, L, M'⟩ ((Code.loop c).wpIn (FR r) 0 P Q) :=
  St.loop (fun i => A i ++ E') (fun i => ⟨w0, X, LA i ++ L1, DA i ++ M⟩) DA I μ i₀ hI hD hE hS round
end
section
variable {N : Nat} {E : Env} {D : List Nat} {S : Sp}
theorem St.again {ι : Type} {EI : ι → Env} {SI : ι → Sp} {DI : ι → List Nat} {I : ι → Prop} {μ : ι → Nat} {m : Nat} (j : ι) (hI : I j) (hμ : μ j < m) (hD : DI j = D) (hE : Sub (EI j) E) (hS : ∀ w, Wd S w → Wd (SI j) w) :
    St N E D S (Again N EI SI DI I μ m) := fun _ w ha hw => ⟨j, hI, hμ, hD ▸ ha.sub hE, hS w hw⟩
end
section
variable {P : Program} {r : Option Nat} {N : Nat} {E : Env} {D : List Nat} {S S0 : Sp} {K G : Act → World → Prop} {w0 : World} {X : List Nat} {L : List (Nat × Obj)} {M : List Nat}
variable {d : Nat} {ty : TypeId} {pos : String} {aft : Array Edge} {v : Value} {g : Option (Nat × Bool)} {n f f1 k : Nat} {l : List Oper} {listed : Array Bool}
variable {fo : Operand} {kf : Nat} {fn : Func} {fs cs vs : List Value} {args : List Operand} {ats : Array TypeId}
/-! Calls, with the callee sought once its number is known. -/
theorem St.callv (hfx : ev E fo = some (.func (.func kf) fs.toArray cs.toArray)) (hF : FN P kf fn) (hargs : Args E args vs)
    (hc : ∀ w, Wd S w → Pure_ P kf (fs ++ vs ++ cs) v w) (hd : Nat.blt d N = true) (h : St N ((d, v) :: E) D S K) :
    St N E D S (Op1 P r ⟨some d, .call { callee := .value fo, args := args.toArray, argTypes := ats }, ty, pos, aft, g⟩ K) := St.call_val hfx hargs hc hd h
theorem GSt.callv (hf1 : f1 = f + 1) (hi : nthO l k = some ⟨some d, .call { callee := .value fo, args := args.toArray, argTypes := ats }, ty, pos, aft, none⟩) (hb : readyB l.toArray n listed k = true) (hsub : ∀ w, Wd S w → Wd S0 w)
    (hfx : ev E fo = some (.func (.func kf) fs.toArray cs.toArray)) (hF : FN P kf fn) (hargs : Args E args vs) (hc : ∀ w, Wd S0 w → Pure_ P kf (fs ++ vs ++ cs) v w) (hd : Nat.blt d N = true)
    (h : GSt N ((d, v) :: E) D S P r S0 l n G f (listed.setIfInBounds k true) (k + 1)) : GSt N E D S P r S0 l n G f1 listed k := GSt.call hf1 hi hb hsub hfx hargs hc hd h
theorem GSt.callvG {j t : Nat} {want : Bool} {u : Value} (hf1 : f1 = f + 1) (hi : nthO l k = some ⟨some d, .call { callee := .value fo, args := args.toArray, argTypes := ats }, ty, pos, aft, some (j, want)⟩) (hj : (nthO l j).bind (·.dst) = some t) (hu : look E t = some u) (hub : isB u want = true) (hb : readyB l.toArray n listed k = true) (hsub : ∀ w, Wd S w → Wd S0 w)
    (hfx : ev E fo = some (.func (.func kf) fs.toArray cs.toArray)) (hF : FN P kf fn) (hargs : Args E args vs) (hc : ∀ w, Wd S0 w → Pure_ P kf (fs ++ vs ++ cs) v w) (hd : Nat.blt d N = true)
    (h : GSt N ((d, v) :: E) D S P r S0 l n G f (listed.setIfInBounds k true) (k + 1)) : GSt N E D S P r S0 l n G f1 listed k := GSt.callG hf1 hi hj hu hub hb hsub hfx hargs hc hd h
theorem St.callo {ι : Type} {Z : ι → Prop} {A Lc : List (Nat × Obj)} {Lx : ι → List (Nat × Obj)} {vx : ι → Value}
    (hfx : ev E fo = some (.func (.func kf) fs.toArray cs.toArray)) (hF : FN P kf fn) (hargs : Args E args vs) (hperm : L.Perm (A ++ Lc))
    (hc : ∀ w, Kp X w0 w → Wd ⟨w, Lc.map (·.1), Lc, []⟩ w → Calls P kf (fs ++ vs ++ cs).toArray w fun e w' => ∃ x, e = .returned (vx x) ∧ Z x ∧ Wd ⟨w, Lc.map (·.1), Lx x, []⟩ w')
    (hd : Nat.blt d N = true) (h : ∀ x, Z x → St N ((d, vx x) :: E) D ⟨w0, X, A ++ Lx x, M⟩ K) :
    St N E D ⟨w0, X, L, M⟩ (Op1 P r ⟨some d, .call { callee := .value fo, args := args.toArray, argTypes := ats }, ty, pos, aft, g⟩ K) :=
  St.call_gen hfx hargs (R := fun w e w' => ∃ x, e = .returned (vx x) ∧ Z x ∧ Wd ⟨w, Lc.map (·.1), Lx x, []⟩ w')
    (fun w hw => callsIn_FR (hc w hw.kp (hw.perm hperm).enter))
    fun w e w' hw ⟨x, he, hz, hk⟩ => ⟨vx x, he, fun _ ha => h x hz _ w' (ha.put _ (by simpa using hd)) ((hw.perm hperm).frame (fun z hz => hz) hk)⟩
theorem St.yieldx {ι : Type} {Z : ι → Prop} {A Lc : List (Nat × Obj)} {Lx : ι → List (Nat × Obj)} {vx : ι → Value} {lp : Nat}
    (hfx : ev E fo = some (.func (.yield lp) #[] #[])) (hargs : Args E args vs) (hperm : L.Perm (A ++ Lc))
    (hy : ∀ w, Kp X w0 w → Wd ⟨w, Lc.map (·.1), Lc, []⟩ w → Yld P lp vs w fun v w' => ∃ x, v = vx x ∧ Z x ∧ Wd ⟨w, Lc.map (·.1), Lx x, []⟩ w')
    (hd : Nat.blt d N = true) (h : ∀ x, Z x → St N ((d, vx x) :: E) D ⟨w0, X, A ++ Lx x, M⟩ K) :
    St N E D ⟨w0, X, L, M⟩ (Op1 P r ⟨some d, .call { callee := .value fo, args := args.toArray, argTypes := ats }, ty, pos, aft, g⟩ K) :=
  St.yield hfx hargs (R := fun w v w' => ∃ x, v = vx x ∧ Z x ∧ Wd ⟨w, Lc.map (·.1), Lx x, []⟩ w') (fun w hw => hy w hw.kp (hw.perm hperm).enter)
    fun w v w' hw ⟨x, he, hz, hk⟩ a ha => he ▸ h x hz _ w' (ha.put _ (by simpa using hd)) ((hw.perm hperm).frame (fun z hz => hz) hk)
theorem St.rangev {Q : Exit → Act → World → Prop} {g : Operand} {ps : Array Tmp} {assign body : Code} {ι : Type} {Z : ι → Prop} {Lx : ι → List (Nat × Obj)} {px : ι → Option Code}
    (hg : ev E g = some (.func (.func kf) fs.toArray cs.toArray)) (hF : FN P kf fn)
    (h : ∀ fid ts b lp w, Fr N E [] ⟨ts, []⟩ → Wd ⟨w0, X, (lp, .loop ⟨.ready, none, fid, ts, ps, assign, body, b⟩) :: L, b :: M⟩ w →
      CallsIn (FR none) 0 P kf (fs ++ [Value.func (.yield lp) #[] #[]] ++ cs).toArray w fun e w' => ∃ v, e = .returned v ∧ ∃ x st, st ≠ .busy ∧ Z x ∧ Wd ⟨w0, X, (lp, .loop ⟨st, px x, fid, ts, ps, assign, body, b⟩) :: Lx x, b :: M⟩ w')
    (hn : ∀ x b, Z x → px x = none → St N E (b :: D) ⟨w0, X, Lx x, b :: M⟩ (Q .normal))
    (hc : ∀ x b c, Z x → px x = some c → St N E (b :: D) ⟨w0, X, Lx x, b :: M⟩ (c.wpIn (FR none) 0 P Q)) :
    St N E D ⟨w0, X, L, M⟩ ((Code.rangeFunc g ps assign body).wpIn (FR none) 0 P Q) :=
  St.range (ι := { x // Z x }) (Lx := fun x => Lx x.1) (px := fun x => px x.1) hg (fun fid ts b lp w hf hw => CallsIn.mono (h fid ts b lp w hf hw) fun e w' ⟨v, he, x, st, hs, hz, hk⟩ => ⟨v, he, ⟨x, hz⟩, st, hs, hk⟩)
    (fun x b hp => hn x.1 b x.2 hp) (fun x b c hp => hc x.1 b c x.2 hp)

/-- Some blocks are taken out of a list, in their order. -/
inductive Pick : List (Nat × Obj) → List (Nat × Obj) → List (Nat × Obj) → Prop
  | nil : Pick [] [] []
  | take {x : Nat × Obj} {L Lc A : List (Nat × Obj)} (h : Pick L Lc A) : Pick (x :: L) (x :: Lc) A
  | leave {x : Nat × Obj} {L Lc A : List (Nat × Obj)} (h : Pick L Lc A) : Pick (x :: L) Lc (x :: A)
theorem Pick.perm {L Lc A : List (Nat × Obj)} (h : Pick L Lc A) : L.Perm (A ++ Lc) := by
  induction h with
  | nil => exact .refl _
  | take _ ih => exact (ih.cons _).trans List.perm_middle.symm
  | leave _ ih => exact ih.cons _

theorem Wd.rebase {w w' : World} {Y : List Nat} (h : Wd ⟨w', X, L, []⟩ w') (hk : Kp Y w w') (hn : ∀ p ∈ L, p.1 < w.heap.size → p.1 ∈ Y) : Wd ⟨w, Y, L, []⟩ w' :=
  ⟨hk, h.own, hn, h.nd, by simp, by simp, by simp, h.nod⟩
end
def nthV : List Value → Nat → Option Value
  | [], _ => none
  | v :: _, 0 => some v
  | _ :: r, k + 1 => nthV r k
theorem nthV_spec : ∀ (l : List Value) (k : Nat) (v : Value), nthV l k = some v → l[k]? = some v
  | [], _, _, h => by cases h
  | x :: r, 0, v, h => by simpa [nthV] using h
  | x :: r, k + 1, v, h => by have := nthV_spec r k v (by simpa [nthV] using h); simpa using this
theorem Y.index1v {P : Program} {N : Nat} {E : Env} {D : List Nat} {S : Sp} {ty : TypeId} {pos : String} {aft : Array Edge} {v : Value} {dst : Option Tmp} {g : Option (Nat × Bool)} {t e : TypeId} {x i : Operand} {k : IntKind} {len : Nat} {cs : List Value} {m : Int} [u : UL P t (.array len e)] (hx : ev E x = some (.agg cs.toArray)) (hi : ev E i = some (.int k m))
    [z : SZ P e 1] [y : AG P e false] (h : 0 ≤ m ∧ m < len) (hv : nthV cs m.toNat = some v) : Y P N E D S ⟨dst, .index t x i, ty, pos, aft, g⟩ v := Y.index1 hx hi h (by simpa using nthV_spec _ _ _ hv)
theorem ret_t {p : Prop} [Decidable p] (h : p) : Ending.returned (oneOf [.bool true]) = .returned (.bool (decide p)) := by rw [decide_eq_true h]; rfl
theorem ret_f {p : Prop} [Decidable p] (h : ¬ p) : Ending.returned (oneOf [.bool false]) = .returned (.bool (decide p)) := by rw [decide_eq_false h]; rfl
end Go.Proofs.Ytikaonfnaobciaa
