/- A logic of small steps over the fenced walk: a state is what some temporaries hold, what some blocks of the call's own hold, and that all else lies as it lay. Nothing here speaks of one program. -/
import Derived.RangeFuncRecord
import Derived.RangeFuncIn
import Derived.RangeFuncLeaves
import Derived.TacticsIn
import Derived.OrdersIn
import Derived.Deep.Quiet
import Derived.Below
import Derived.Sort.LoopGhostIn
import Derived.WalkKit
import Derived.WalkLawsBesides
import Derived.WalkSpells
namespace Go.Proofs.Ytikaonfnaobciaa
open Go.RowKit

/-! ### Temporaries -/
abbrev Env := List (Nat × Value)

def look : Env → Nat → Option Value
  | [], _ => none
  | (k, v) :: r, t => bif Nat.beq k t then some v else look r t

def ev (E : Env) : Operand → Option Value
  | .tmp t => look E t
  | .const v => some v
  | .global g => some (.pointer (some ⟨g, 0, none⟩))
  | .func f => some (.func (.func f) #[] #[])

def mark (r : Nat) : Deferred := { target := .collected r, args := #[] }

structure Fr (N : Nat) (E : Env) (D : List Nat) (a : Act) : Prop where
  sz : a.tmps.size = N
  df : a.defers = D.map mark
  ok : ∀ t v, look E t = some v → a.tmps[t]? = some v

theorem Fr.ev {N : Nat} {E : Env} {D : List Nat} {a : Act} (h : Fr N E D a) {x : Operand} {v : Value} (hx : ev E x = some v) : a.eval x = v := by
  cases x with
  | tmp t => have := h.ok t v hx; simp [Act.eval, this]
  | const c => simpa [Proofs.Ytikaonfnaobciaa.ev, Act.eval] using hx
  | global g => simpa [Proofs.Ytikaonfnaobciaa.ev, Act.eval] using hx
  | func f => simpa [Proofs.Ytikaonfnaobciaa.ev, Act.eval] using hx

theorem Fr.put {N : Nat} {E : Env} {D : List Nat} {a : Act} (h : Fr N E D a) {d : Nat} (v : Value) (hd : d < N) : Fr N ((d, v) :: E) D (a.put (some d) v) := by
  refine ⟨by simpa [Act.put] using h.sz, h.df, fun t u ht => ?_⟩
  simp only [look] at ht
  by_cases e : d = t
  · subst e
    simp only [Nat.beq_refl, cond_true, Option.some.injEq] at ht
    subst ht
    simp [Act.put, h.sz, hd]
  · have hb : Nat.beq d t = false := by
      cases hq : Nat.beq d t with
      | false => rfl
      | true => exact absurd (Nat.eq_of_beq_eq_true hq) e
    rw [hb] at ht
    have := h.ok t u ht
    simp only [Act.put, Array.getElem?_setIfInBounds, if_neg e]
    exact this

theorem Fr.put_none {N : Nat} {E : Env} {D : List Nat} {a : Act} (h : Fr N E D a) (v : Value) : Fr N E D (a.put none v) := h

/-- The same temporaries, and fewer known. -/
def Sub (E' E : Env) : Prop := ∀ t v, look E' t = some v → look E t = some v
theorem Sub.refl (E : Env) : Sub E E := fun _ _ h => h
theorem Sub.nil (E : Env) : Sub [] E := fun _ _ h => by cases h
theorem Sub.cons {E' E : Env} {t : Nat} {v : Value} (h : look E t = some v) (hs : Sub E' E) : Sub ((t, v) :: E') E := fun k u hk => by
  simp only [look] at hk
  cases hb : Nat.beq t k with
  | true =>
    rw [hb] at hk
    simp only [cond_true, Option.some.injEq] at hk
    rw [← Nat.eq_of_beq_eq_true hb, ← hk]; exact h
  | false => rw [hb] at hk; exact hs k u hk
theorem Fr.sub {N : Nat} {E E' : Env} {D : List Nat} {a : Act} (h : Fr N E D a) (hs : Sub E' E) : Fr N E' D a := ⟨h.sz, h.df, fun t v ht => h.ok t v (hs t v ht)⟩

/-! ### The world -/
/-- What lay before the call lies as it lay, but for the blocks X. -/
structure Kp (X : List Nat) (w0 w : World) : Prop where
  os : w.os = w0.os
  tape : w.tape = w0.tape
  output : w.output = w0.output
  size : w0.heap.size ≤ w.heap.size
  keep : ∀ k, k < w0.heap.size → k ∉ X → w.heap[k]? = w0.heap[k]?

theorem Kp.refl (X : List Nat) (w : World) : Kp X w w := ⟨rfl, rfl, rfl, Nat.le_refl _, fun _ _ _ => rfl⟩
theorem Kp.trans {X Y : List Nat} {a b c : World} (h : Kp X a b) (k : Kp Y b c) (hy : ∀ y ∈ Y, y < a.heap.size → y ∈ X) : Kp X a c :=
  ⟨k.os.trans h.os, k.tape.trans h.tape, k.output.trans h.output, Nat.le_trans h.size k.size, fun i hi hx =>
    (k.keep i (Nat.lt_of_lt_of_le hi h.size) (fun hy' => hx (hy i hy' hi))).trans (h.keep i hi hx)⟩
theorem Kp.below {w0 w : World} (h : Kp [] w0 w) : Below w0.heap.size w0 w := ⟨h.os, h.tape, h.output, h.size, fun k hk => h.keep k hk (by simp)⟩
theorem Kp.of_below {w0 w : World} (h : Below w0.heap.size w0 w) : Kp [] w0 w := ⟨h.os, h.tape, h.output, h.size, fun k hk _ => h.block k hk⟩

structure Sp where
  w0 : World
  X : List Nat
  L : List (Nat × Obj)
  M : List Nat

def isDef (o : Obj) : Bool := match o with | .deferred _ => true | _ => false

structure Wd (S : Sp) (w : World) : Prop where
  kp : Kp S.X S.w0 w
  own : ∀ p ∈ S.L, w.heap[p.1]? = some p.2
  new : ∀ p ∈ S.L, p.1 < S.w0.heap.size → p.1 ∈ S.X
  nd : S.L.Pairwise (fun p q => p.1 ≠ q.1)
  mks : ∀ r ∈ S.M, w.heap[r]? = some (.deferred (some []))
  mnew : ∀ r ∈ S.M, r < S.w0.heap.size → r ∈ S.X
  mnd : S.M.Nodup
  nod : ∀ p ∈ S.L, isDef p.2 = false

/-- A new block. -/
theorem Wd.alloc {S : Sp} {w : World} (h : Wd S w) (o : Obj) (ho : isDef o = false := by rfl) : Wd { S with L := (w.heap.size, o) :: S.L } (w.alloc o) := by
  have hlt : ∀ p ∈ S.L, p.1 < w.heap.size := fun p hp => (Array.getElem?_eq_some_iff.1 (h.own p hp)).1
  have hold : ∀ k, k < w.heap.size → (w.alloc o).heap[k]? = w.heap[k]? := fun k hk => Below.heap_alloc w o k hk
  refine ⟨⟨h.kp.os, h.kp.tape, h.kp.output, by have := h.kp.size; simp; omega, fun k hk hx => ?_⟩, ?_, ?_, ?_, ?_, h.mnew, h.mnd, fun p hp => (List.mem_cons.1 hp).elim (fun e => e ▸ ho) (h.nod p)⟩
  · have hk' : k < S.w0.heap.size := hk
    rw [hold k (by have := h.kp.size; omega)]; exact h.kp.keep k hk hx
  · intro p hp
    rcases List.mem_cons.1 hp with rfl | hp
    · exact World.alloc_heap_new w o
    · rw [hold p.1 (hlt p hp)]; exact h.own p hp
  · intro p hp hl
    rcases List.mem_cons.1 hp with rfl | hp
    · have := h.kp.size; exact absurd hl (by simp only; omega)
    · exact h.new p hp hl
  · refine List.pairwise_cons.2 ⟨fun p hp => ?_, h.nd⟩
    have := hlt p hp
    simp only; omega
  · intro r hr
    rw [hold r (Array.getElem?_eq_some_iff.1 (h.mks r hr)).1]; exact h.mks r hr

/-- Behind a call that leaves alone all that lay. -/
theorem Wd.kept {S : Sp} {w w' : World} (h : Wd S w) (hk : Kp [] w w') : Wd S w' := by
  have hold : ∀ k, k < w.heap.size → w'.heap[k]? = w.heap[k]? := fun k hk' => hk.keep k hk' (by simp)
  refine ⟨h.kp.trans hk (by simp), fun p hp => ?_, h.new, h.nd, fun r hr => ?_, h.mnew, h.mnd, h.nod⟩
  · rw [hold p.1 (Array.getElem?_eq_some_iff.1 (h.own p hp)).1]; exact h.own p hp
  · rw [hold r (Array.getElem?_eq_some_iff.1 (h.mks r hr)).1]; exact h.mks r hr

/-- .. and whose own new blocks are told. -/
theorem Wd.more {S : Sp} {w w' : World} (h : Wd S w) (hk : Kp [] w w') {L' : List (Nat × Obj)} (ho : ∀ p ∈ L', w'.heap[p.1]? = some p.2) (hn : ∀ p ∈ L', w.heap.size ≤ p.1) (hd : L'.Pairwise (fun p q => p.1 ≠ q.1)) (hf : ∀ p ∈ L', isDef p.2 = false) :
    Wd { S with L := L' ++ S.L } w' := by
  have h' := h.kept hk
  refine ⟨h'.kp, fun p hp => ?_, fun p hp hl => ?_, ?_, h'.mks, h'.mnew, h'.mnd, fun p hp => ?_⟩
  · rcases List.mem_append.1 hp with hp | hp
    · exact ho p hp
    · exact h'.own p hp
  · rcases List.mem_append.1 hp with hp | hp
    · have := hn p hp; have := h.kp.size; exact absurd hl (by simp only; omega)
    · exact h.new p hp hl
  · refine List.pairwise_append.2 ⟨hd, h.nd, fun p hp q hq => ?_⟩
    have := hn p hp
    have := (Array.getElem?_eq_some_iff.1 (h.own q hq)).1
    omega
  · rcases List.mem_append.1 hp with hp | hp
    · exact hf p hp
    · exact h.nod p hp

/-- Which block is turned into what, in the list of own blocks. -/
inductive Rep (b : Nat) (o o' : Obj) : List (Nat × Obj) → List (Nat × Obj) → Prop
  | head {r : List (Nat × Obj)} : Rep b o o' ((b, o) :: r) ((b, o') :: r)
  | tail {p : Nat × Obj} {r r' : List (Nat × Obj)} (h : Rep b o o' r r') : Rep b o o' (p :: r) (p :: r')

theorem Rep.mem {b : Nat} {o o' : Obj} {L L' : List (Nat × Obj)} (h : Rep b o o' L L') : (b, o) ∈ L := by
  induction h with
  | head => exact .head _
  | tail _ ih => exact .tail _ ih
theorem Rep.mem' {b : Nat} {o o' : Obj} {L L' : List (Nat × Obj)} (h : Rep b o o' L L') : (b, o') ∈ L' := by
  induction h with
  | head => exact .head _
  | tail _ ih => exact .tail _ ih
theorem Rep.keys {b : Nat} {o o' : Obj} {L L' : List (Nat × Obj)} (h : Rep b o o' L L') : L'.map (·.1) = L.map (·.1) := by
  induction h with
  | head => rfl
  | tail _ ih => simp [ih]
theorem Rep.cases {b : Nat} {o o' : Obj} {L L' : List (Nat × Obj)} (h : Rep b o o' L L') : ∀ p ∈ L', p = (b, o') ∨ p ∈ L := by
  induction h with
  | head => exact fun p hp => (List.mem_cons.1 hp).imp id (fun h => .tail _ h)
  | tail _ ih => exact fun p hp => (List.mem_cons.1 hp).elim (fun e => .inr (e ▸ .head _)) (fun h => (ih p h).imp id (fun h => .tail _ h))

theorem pw_keys {L L' : List (Nat × Obj)} (h : L'.map (·.1) = L.map (·.1)) (hd : L.Pairwise (fun p q => p.1 ≠ q.1)) : L'.Pairwise (fun p q => p.1 ≠ q.1) := by
  have h1 : (L.map (·.1)).Pairwise (· ≠ ·) := by rw [List.pairwise_map]; exact hd
  rw [← h, List.pairwise_map] at h1
  exact h1

/-- Of two entries of one block: they are one. -/
theorem pw_uniq {L : List (Nat × Obj)} (hd : L.Pairwise (fun p q => p.1 ≠ q.1)) {p q : Nat × Obj} (hp : p ∈ L) (hq : q ∈ L) (e : p.1 = q.1) : p = q := by
  induction hd with
  | nil => cases hp
  | cons h _ ih =>
    rcases List.mem_cons.1 hp with hp1 | hp1
    · rcases List.mem_cons.1 hq with hq1 | hq1
      · rw [hp1, hq1]
      · exact absurd (hp1 ▸ e) (h _ hq1)
    · rcases List.mem_cons.1 hq with hq1 | hq1
      · exact absurd (hq1 ▸ e).symm (h _ hp1)
      · exact ih hp1 hq1

/-- One own block is turned; the world behind it is any that parts from the old one there alone. -/
theorem Wd.turn {S : Sp} {w w' : World} (h : Wd S w) {b : Nat} {o o' : Obj} {L' : List (Nat × Obj)} (hr : Rep b o o' S.L L') (hnd : isDef o' = false)
    (hos : w'.os = w.os) (ht : w'.tape = w.tape) (hout : w'.output = w.output) (hs : w'.heap.size = w.heap.size)
    (hb : w'.heap[b]? = some o') (hk : ∀ k, k ≠ b → w'.heap[k]? = w.heap[k]?) : Wd { S with L := L' } w' := by
  have hm := hr.mem
  have hbo := h.own _ hm
  refine ⟨⟨hos.trans h.kp.os, ht.trans h.kp.tape, hout.trans h.kp.output, by rw [hs]; exact h.kp.size, fun k hk' hx => ?_⟩, ?_, ?_, pw_keys hr.keys h.nd, ?_, h.mnew, h.mnd, fun p hp => (hr.cases p hp).elim (fun e => e ▸ hnd) (h.nod p)⟩
  · have : k ≠ b := fun e => by subst e; exact hx (h.new _ hm hk')
    rw [hk k this]; exact h.kp.keep k hk' hx
  · intro p hp
    rcases hr.cases p hp with rfl | hp'
    · exact hb
    · by_cases e : p.1 = b
      · have hpe := pw_uniq h.nd hp' hm e
        subst hpe
        have hpw := pw_keys hr.keys h.nd
        have := pw_uniq hpw hp hr.mem' rfl
        rw [this]; exact hb
      · rw [hk _ e]; exact h.own p hp'
  · intro p hp hl
    have : p.1 ∈ L'.map (·.1) := List.mem_map_of_mem hp
    rw [hr.keys] at this
    obtain ⟨q, hq, e⟩ := List.mem_map.1 this
    rw [← e] at hl ⊢
    exact h.new q hq hl
  · intro r hr'
    have hrr := h.mks r hr'
    have : r ≠ b := fun e => by subst e; rw [hbo] at hrr; injection hrr with hrr; have h1 := h.nod _ hm; rw [hrr] at h1; cases h1
    rw [hk r this]; exact hrr

/-! ### States -/
abbrev FR (r : Option Nat) : Fence := { Fence.wide with round := r }

/-- Whatever frame and world fit the state: φ. -/
def St (N : Nat) (E : Env) (D : List Nat) (S : Sp) (φ : Act → World → Prop) : Prop := ∀ a w, Fr N E D a → Wd S w → φ a w

section
variable {P : Program} {r : Option Nat} {N : Nat} {E : Env} {D : List Nat} {S : Sp} {Q : Exit → Act → World → Prop} {φ : Act → World → Prop}

theorem St.sub {E' : Env} (hs : Sub E' E) (h : St N E' D S φ) : St N E D S φ := fun a w ha hw => h a w (ha.sub hs) hw
theorem St.mono {ψ : Act → World → Prop} (hq : ∀ a w, φ a w → ψ a w) (h : St N E D S φ) : St N E D S ψ := fun a w ha hw => hq a w (h a w ha hw)

theorem St.seq {x y : Code} (h : St N E D S (x.wpIn (FR r) 0 P (Exit.then (y.wpIn (FR r) 0 P Q) Q))) : St N E D S ((Code.seq x y).wpIn (FR r) 0 P Q) := fun a w ha hw => wpIn_seq (h a w ha hw)
theorem St.skip (h : St N E D S (Q .normal)) : St N E D S (Code.skip.wpIn (FR r) 0 P Q) := fun a w ha hw => wpIn_skip (h a w ha hw)
theorem St.label {l : Nat} (h : St N E D S (Q .normal)) : St N E D S ((Code.label l).wpIn (FR r) 0 P Q) := fun a w ha hw => wpIn_label (h a w ha hw)
theorem St.exit {i : Nat} (h : St N E D S (Q (.exit i))) : St N E D S ((Code.exit i).wpIn (FR r) 0 P Q) := fun a w ha hw => wpIn_exit (h a w ha hw)
theorem St.ret (h : St N E D S (Q .ret)) : St N E D S (Code.ret.wpIn (FR r) 0 P Q) := fun a w ha hw => wpIn_ret (h a w ha hw)
theorem St.block {i : Nat} {c : Code} (h : St N E D S (c.wpIn (FR r) 0 P (Exit.inBlock i Q))) : St N E D S ((Code.block i c).wpIn (FR r) 0 P Q) := fun a w ha hw => wpIn_block (h a w ha hw)
theorem St.cond {c : Operand} {x y : Code} {b : Bool} (hc : ev E c = some (.bool b)) (ht : b = true → St N E D S (x.wpIn (FR r) 0 P Q)) (hf : b = false → St N E D S (y.wpIn (FR r) 0 P Q)) :
    St N E D S ((Code.cond c x y).wpIn (FR r) 0 P Q) := fun a w ha hw => wpIn_cond_split (ha.ev hc) (fun e => ht e a w ha hw) (fun e => hf e a w ha hw)
theorem St.cond_true {c : Operand} {x y : Code} (hc : ev E c = some (.bool true)) (h : St N E D S (x.wpIn (FR r) 0 P Q)) : St N E D S ((Code.cond c x y).wpIn (FR r) 0 P Q) :=
  fun a w ha hw => wpIn_cond_true (ha.ev hc) (h a w ha hw)
theorem St.cond_false {c : Operand} {x y : Code} (hc : ev E c = some (.bool false)) (h : St N E D S (y.wpIn (FR r) 0 P Q)) : St N E D S ((Code.cond c x y).wpIn (FR r) 0 P Q) :=
  fun a w ha hw => wpIn_cond_false (ha.ev hc) (h a w ha hw)
theorem St.cond_dec {c : Operand} {x y : Code} {p : Prop} [Decidable p] (hc : ev E c = some (.bool (decide p))) (ht : p → St N E D S (x.wpIn (FR r) 0 P Q)) (hf : ¬ p → St N E D S (y.wpIn (FR r) 0 P Q)) :
    St N E D S ((Code.cond c x y).wpIn (FR r) 0 P Q) := St.cond hc (fun e => ht (of_decide_eq_true e)) (fun e => hf (of_decide_eq_false e))
theorem St.cond_ndec {c : Operand} {x y : Code} {p : Prop} [Decidable p] (hc : ev E c = some (.bool (!decide p))) (ht : ¬ p → St N E D S (x.wpIn (FR r) 0 P Q)) (hf : p → St N E D S (y.wpIn (FR r) 0 P Q)) :
    St N E D S ((Code.cond c x y).wpIn (FR r) 0 P Q) := St.cond hc (fun e => ht (by simpa using e)) (fun e => hf (by simpa using e))
theorem St.then_ {K : Act → World → Prop} (h : St N E D S K) : St N E D S (Exit.then K Q .normal) := h
theorem St.then_exit {K : Act → World → Prop} {i : Nat} (h : St N E D S (Q (.exit i))) : St N E D S (Exit.then K Q (.exit i)) := h
theorem St.then_ret {K : Act → World → Prop} (h : St N E D S (Q .ret)) : St N E D S (Exit.then K Q .ret) := h
theorem St.inb {i : Nat} (h : St N E D S (Q .normal)) : St N E D S (Exit.inBlock i Q .normal) := h
theorem St.inb_ret {i : Nat} (h : St N E D S (Q .ret)) : St N E D S (Exit.inBlock i Q .ret) := h
theorem St.inb_exit {i : Nat} (h : St N E D S (Q .normal)) : St N E D S (Exit.inBlock i Q (.exit i)) := by
  simpa [St, Exit.inBlock] using h
theorem St.inb_other {i j : Nat} (hj : Nat.beq j i = false) (h : St N E D S (Q (.exit j))) : St N E D S (Exit.inBlock i Q (.exit j)) := by
  have : j ≠ i := fun e => by subst e; simp at hj
  simpa [St, Exit.inBlock, this] using h
theorem St.region {i : Nat} {l : List Oper} (h : St N E D S (wpListIn (FR r) 0 P l.toArray Q l)) : St N E D S ((Code.region i l.toArray false).wpIn (FR r) 0 P Q) :=
  fun a w ha hw => wpIn_region_lit (h a w ha hw)
theorem St.nil {ops : Array Oper} (h : St N E D S (Q .normal)) : St N E D S (wpListIn (FR r) 0 P ops Q []) := fun a w ha hw => wpListIn_nil (h a w ha hw)

/-- A loop: a state for each ghost i, a measure, what else is known. -/
theorem St.loop {ι : Type} {c : Code} (EI : ι → Env) (SI : ι → Sp) (DI : ι → List Nat) (I : ι → Prop) (μ : ι → Nat) (i₀ : ι) (hI : I i₀) (hD : DI i₀ = D) (hE : Sub (EI i₀) E) (hS : ∀ w, Wd S w → Wd (SI i₀) w)
    (round : ∀ i, I i → St N (EI i) (DI i) (SI i) (c.wpIn (FR r) 0 P (Exit.then (fun a w => ∃ j, I j ∧ μ j < μ i ∧ Fr N (EI j) (DI j) a ∧ Wd (SI j) w) Q))) :
    St N E D S ((Code.loop c).wpIn (FR r) 0 P Q) := by
  intro a w ha hw
  refine wpIn_loop_ghost (fun n a w => ∃ i, μ i = n ∧ I i ∧ Fr N (EI i) (DI i) a ∧ Wd (SI i) w) (μ i₀) ⟨i₀, rfl, hI, hD ▸ ha.sub hE, hS w hw⟩ ?_
  rintro n a' w' ⟨i, rfl, hi, ha', hw'⟩
  refine Go.wpIn_mono (round i hi a' w' ha' hw') ?_
  intro e a2 w2 hq
  cases e with
  | normal =>
    obtain ⟨j, hj, hlt, hf, hwd⟩ := hq
    exact show ∃ n', n' < μ i ∧ ∃ k, μ k = n' ∧ I k ∧ Fr N (EI k) (DI k) a2 ∧ Wd (SI k) w2 from ⟨μ j, hlt, j, rfl, hj, hf, hwd⟩
  | exit id => exact hq
  | goto l => exact hq
  | ret => exact hq
  | panic ch => exact hq
  | outgrown => exact hq

/-- The round's end. -/
theorem St.next {ι : Type} {EI : ι → Env} {SI : ι → Sp} {DI : ι → List Nat} {I : ι → Prop} {μ : ι → Nat} {i : ι} (j : ι) (hI : I j) (hμ : μ j < μ i) (hD : DI j = D) (hE : Sub (EI j) E) (hS : ∀ w, Wd S w → Wd (SI j) w) :
    St N E D S (Exit.then (fun a w => ∃ j, I j ∧ μ j < μ i ∧ Fr N (EI j) (DI j) a ∧ Wd (SI j) w) Q .normal) :=
  fun _ w ha hw => ⟨j, hI, hμ, hD ▸ ha.sub hE, hS w hw⟩
end

end Go.Proofs.Ytikaonfnaobciaa
