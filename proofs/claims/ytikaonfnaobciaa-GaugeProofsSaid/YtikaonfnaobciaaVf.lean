/- Regions and code, computed. -/
import Derived.Test.YtikaonfnaobciaaVe
namespace Go.Proofs.Ytikaonfnaobciaa
open Go.RowKit
set_option linter.unusedVariables false
set_option linter.unusedSimpArgs false

section
variable {P : Program} {T : Tr} {N : Nat} {E : SEnv} {D : List Nat} {H : Heap} {w0 : World} {X : List Nat} {L : List (Nat × Obj)} {r : Option Nat}
variable {ty : TypeId} {pos : String} {aft : Array Edge} {dst : Option Tmp} {g : Option (Nat × Bool)} {K : Act → World → Prop}

theorem callV_ok {f : Operand} {fk : Nat} {fs cs l : List SV} {args : List Operand} {ats : Array TypeId} {k : SV → Heap → Prop} (h : CallV P w0 X D H fk (fs ++ l ++ cs) k) (hL : HR w0 X H L) (hf : ev (venv E) f = some (SV.fn (.func fk) fs cs).val) (ha : Args (venv E) args (SV.vals l))
    {k' : SEnv → Heap → Prop} (hp : ∀ v H', k v H' → putE N dst v E fun E' => k' E' H') (hk : ∀ E' H', k' E' H' → VSt N w0 X E' H' D K) :
    St N (venv E) D ⟨w0, X, L, D⟩ (Op1 P r ⟨dst, .call { callee := .value f, args := args.toArray, argTypes := ats }, ty, pos, aft, g⟩ K) := by
  obtain ⟨ι, Z, vx, Hx, fn, hF, hc, h⟩ := h
  simp only [SV.val] at hf
  refine St.call_gen hf ha (R := fun w e w' => ∃ x L', e = .returned (vx x).val ∧ Z x ∧ HR w0 X (Hx x) L' ∧ Wd ⟨w0, X, L', D⟩ w') (fun w hw => ?_) fun w e w' hw ⟨x, L', he, hz, hL', hw'⟩ => ⟨(vx x).val, he, fun a hfr => ?_⟩
  · have := hc w L hL hw
    rw [vals_append, vals_append] at this
    exact callsIn_FR this
  · have h1 := hp _ _ (h x hz)
    cases dst with
    | none => exact hk _ _ h1 L' hL' _ w' (hfr.put_none _) hw'
    | some d =>
      unfold putE at h1
      split at h1
      · rename_i he; cases he
      · rename_i d' he
        cases he
        split at h1
        · rename_i hd
          exact hk _ _ h1 L' hL' _ w' (hfr.put _ (by simpa using hd)) hw'
        · exact h1.elim

theorem vop_ok {o : Oper} {k : SEnv → Heap → Prop} (hT : T.All P) (h : vop P T N w0 X D o E H k) (hk : ∀ E' H', k E' H' → VSt N w0 X E' H' D K) : VSt N w0 X E H D (Op1 P r o K) := by
  intro L hL
  obtain ⟨dst, op, ty, pos, aft, g⟩ := o
  have pure_ : vpure P T op E H (fun s => putE N dst s E fun E' => k E' H) → St N (venv E) D ⟨w0, X, L, D⟩ (Op1 P r ⟨dst, op, ty, pos, aft, g⟩ K) := fun h => by
    obtain ⟨s, hs, hy⟩ := vpure_ok (w0 := w0) (X := X) (N := N) (D := D) (dst := dst) (ty := ty) (pos := pos) (aft := aft) (g := g) hT h
    exact VSt.val hL (hy L hL) hs hk
  unfold vop at h
  simp only at h
  split at h
  · rename_i t a x
    split at h
    · obtain ⟨s, hs, h⟩ := get1_ok h
      obtain ⟨u, hu, h⟩ := get1_ok h
      exact vstore_ok hT h hL hs hu fun H' h => hk _ _ h
    · exact h.elim
  · rename_i t
    split at h
    · rename_i d ti hti
      split at h
      · rename_i z hz
        split at h
        · rename_i hf hd
          rw [nrm_iff] at h
          have ht := Tr.get_ok hT hti
          have hzv := ht.zv z hz
          exact alloc_ok rfl hf hd hL (fun a w _ _ => by simp [execOp, Instr.alloc, run_ZV hzv.h, newVar, newRow, SV.fit_cells (SV.fitB_ok hf)]) fun b => hk _ _ (h b)
        · exact h.elim
      · exact h.elim
    · exact h.elim
  · rename_i t x
    split at h
    · rename_i d
      obtain ⟨z, hz, h⟩ := get1_ok h
      split at h
      · rename_i hf hd
        rw [nrm_iff] at h
        exact alloc_ok rfl hf hd hL (fun a w ha _ => by simp [execOp, ha.ev hz, Instr.box, newVar, newRow, SV.fit_cells (SV.fitB_ok hf)]) fun b => hk _ _ (h b)
      · exact h.elim
    · exact h.elim
  · rename_i t len ps
    obtain ⟨ps⟩ := ps
    split at h
    · exact vbuildSlice_ok hT h hL hk
    · exact h.elim
  · rename_i t xl xc
    split at h
    · rename_i d y hs
      split at h
      · rename_i z hz
        split at h
        · rename_i hf hcs hd
          obtain ⟨s, hs1, h⟩ := get1_ok h
          obtain ⟨u, hs2, h⟩ := get1_ok h
          split at h
          · exact makeSlice_ok hT hs hz hf (Nat.eq_of_beq_eq_true hcs) hd hL hs1 hs2 h.1 h.2.1 fun b => hk _ _ (h.2.2 b)
          · exact h.elim
        · exact h.elim
      · exact h.elim
    · exact h.elim
  · rename_i c
    obtain ⟨callee, args, ats⟩ := c
    obtain ⟨args⟩ := args
    simp only at h
    split at h
    · obtain ⟨ats⟩ := ats
      split at h
      · rename_i d t t' x y hats
        try subst hats
        split at h
        · rename_i ht hd
          obtain rfl := Nat.eq_of_beq_eq_true ht
          obtain ⟨s, hs, h⟩ := get1_ok h
          obtain ⟨u, hu, h⟩ := get1_ok h
          exact vappend_ok hT h hL hd hs hu fun v H' h => hk _ _ h
        · exact h.elim
      · exact h.elim
    · rename_i f
      obtain ⟨s, hs, h⟩ := get1_ok h
      split at h
      · obtain ⟨l, hl, h⟩ := getL_ok h
        exact callV_ok h hL hs hl (fun v H' h => h) hk
      · exact h.elim
    · exact pure_ h
  · exact pure_ h
end

/-! ### Regions -/
def notB (x : Value) : Bool := match x with | .bool _ => false | _ => true
def gd (all : List Oper) (o : Oper) (E : SEnv) (A B : Prop) : Prop := match o.guard with
  | none => A
  | some y => match (nthO all y.1).bind (·.dst) with
    | none => False
    | some t => match lk E t with
      | some (.bool true) => match y.2 with | true => A | false => B
      | some (.bool false) => match y.2 with | true => B | false => A
      | some (.v x) => match notB x with | true => B | false => False
      | _ => False

def vops (P : Program) (T : Tr) (N : Nat) (w0 : World) (X D : List Nat) (all : List Oper) : List Oper → SEnv → Heap → (SEnv → Heap → Prop) → Prop
  | [], E, H, k => k E H
  | o :: r, E, H, k => match nodef o.op with
    | true => gd all o E (vop P T N w0 X D o E H fun E' H' => vops P T N w0 X D all r E' H' k) (putE N o.dst (.v undef) E fun E' => vops P T N w0 X D all r E' H k)
    | false => False

/-- An operation in the head of a region that draws: a value, or a call that turns nothing. -/
def vheadOp (P : Program) (T : Tr) (w0 : World) (X D : List Nat) (o : Oper) (E : SEnv) (H : Heap) (k : SV → Prop) : Prop := match o.op with
  | .call c => match c.callee with
    | .value f => get1 E f fun s => match s with
      | .fn (.func fk) fs cs => getL E c.args.toList fun l => CallP P w0 X D H fk (fs ++ l ++ cs) k
      | _ => False
    | _ => vpure P T o.op E H k
  | _ => vpure P T o.op E H k
def vhead (P : Program) (T : Tr) (N : Nat) (w0 : World) (X D : List Nat) (all : List Oper) : List Oper → Nat → SEnv → Heap → (SEnv → Prop) → Prop
  | _, 0, E, H, k => k E
  | [], _ + 1, E, H, k => False
  | o :: r, n + 1, E, H, k => gd all o E (vheadOp P T w0 X D o E H fun s => putE N o.dst s E fun E' => vhead P T N w0 X D all r n E' H k) (putE N o.dst (.v undef) E fun E' => vhead P T N w0 X D all r n E' H k)

def quiet (o : Op) : Bool := match o with
  | .store .. | .alloc _ | .box .. | .buildSlice .. | .makeSlice .. | .makeMap .. | .mapUpdate .. | .insert .. => false
  | .call c => match c.callee with
    | .builtin .append | .builtin .copy | .builtin .clear | .builtin .delete => false
    | _ => true
  | _ => true
/-- Where a region's tail begins. -/
def tailAt : List Oper → Nat
  | [] => 0
  | [o] => match o.op with
    | .call c => match c.callee with
      | .value _ => 0
      | _ => match quiet o.op with | true => 1 | false => 0
    | _ => match quiet o.op with | true => 1 | false => 0
  | o :: r => match quiet o.op with
    | true => tailAt r + 1
    | false => 0
def readyAll (l : List Oper) (n : Nat) : Nat → Array Bool → Nat → Bool
  | 0, _, _ => true
  | f + 1, listed, k => readyB l.toArray n listed k && readyAll l n f (listed.setIfInBounds k true) (k + 1)
def drawB (l : List Oper) (n : Nat) : Bool := headB l.toArray n && readyAll l n n (Array.replicate l.length false) 0 && decide (n ≤ l.length)

def vdraw (P : Program) (T : Tr) (N : Nat) (w0 : World) (X D : List Nat) (l : List Oper) (n : Nat) (E : SEnv) (H : Heap) (k : SEnv → Heap → Prop) : Prop :=
  drawB l n = true ∧ vhead P T N w0 X D l l n E H fun E' => vops P T N w0 X D l (dropS n l) E' H k

section
variable {P : Program} {T : Tr} {N : Nat} {E : SEnv} {D : List Nat} {H : Heap} {w0 : World} {X : List Nat} {L : List (Nat × Obj)} {r : Option Nat} {Q : Exit → Act → World → Prop}

theorem gd_cases {all : List Oper} {o : Oper} {A B : Prop} (h : gd all o E A B) :
    (o.guard = none ∧ A) ∨ ∃ y t v, o.guard = some y ∧ (nthO all y.1).bind (·.dst) = some t ∧ look (venv E) t = some v ∧ ((isB v y.2 = true ∧ A) ∨ (isB v y.2 = false ∧ B)) := by
  unfold gd at h
  split at h
  · left; exact ⟨by assumption, h⟩
  · rename_i y hy
    right
    split at h
    · exact h.elim
    · rename_i t ht
      split at h
      · rename_i hl
        refine ⟨y, t, .bool true, hy, ht, by rw [look_venv, hl]; rfl, ?_⟩
        split at h <;> rename_i hb <;> rw [hb]
        · exact .inl ⟨rfl, h⟩
        · exact .inr ⟨rfl, h⟩
      · rename_i hl
        refine ⟨y, t, .bool false, hy, ht, by rw [look_venv, hl]; rfl, ?_⟩
        split at h <;> rename_i hb <;> rw [hb]
        · exact .inr ⟨rfl, h⟩
        · exact .inl ⟨rfl, h⟩
      · rename_i x hl
        refine ⟨y, t, x, hy, ht, by rw [look_venv, hl]; rfl, ?_⟩
        split at h
        · rename_i hx
          exact .inr ⟨(by cases x <;> first | rfl | (cases hx)), h⟩
        · exact h.elim
      · exact h.elim

theorem put_undef {o : Oper} {Ev : Env} {k : SEnv → Prop} (h : putE N o.dst (.v undef) E k) : ∃ E', k E' ∧ ∀ a, Fr N (venv E) D a → Fr N (venv E') D (a.put o.dst undef) := by
  unfold putE at h
  split at h
  · rename_i hd; exact ⟨E, h, fun a ha => by rw [hd]; exact ha.put_none _⟩
  · rename_i d hd
    split at h
    · rename_i hlt
      exact ⟨_, h, fun a ha => by rw [hd]; exact ha.put undef (by simpa using hlt)⟩
    · exact h.elim

theorem vops_ok (hT : T.All P) {all : List Oper} : ∀ {l : List Oper} {E : SEnv} {H : Heap} {k : SEnv → Heap → Prop}, vops P T N w0 X D all l E H k → (∀ E' H', k E' H' → VSt N w0 X E' H' D (Q .normal)) → VSt N w0 X E H D (wpListIn (FR r) 0 P all.toArray Q l)
  | [], E, H, k, h, hk => fun L hL => St.nil (hk _ _ h L hL)
  | o :: l, E, H, k, h, hk => by
    unfold vops at h
    split at h
    · rename_i hnd
      rcases gd_cases h with ⟨hg, h⟩ | ⟨y, t, v, hy, ht, hl, h⟩
      · exact fun L hL => St.opr hg hnd (vop_ok hT h (fun E' H' h => vops_ok hT h hk) L hL)
      · have ht' := nthO_dst ht
        rcases h with ⟨hb, h⟩ | ⟨hb, h⟩
        · exact fun L hL => St.opG (want := y.2) (by rw [hy]) ht' hl hb hnd (vop_ok hT h (fun E' H' h => vops_ok hT h hk) L hL)
        · obtain ⟨E', h, hput⟩ := put_undef (D := D) (Ev := []) h
          intro L hL a w ha hw
          refine wpListIn_step fun K hK => ?_
          rw [wanted_of ha ht' hl o (by rw [hy])]
          rw [hb, if_neg (by simp)]
          exact ⟨FR_about _ _ _, hK _ _ (vops_ok hT h hk L hL _ w (hput a ha) hw)⟩
    · exact h.elim

theorem vheadOp_ok {o : Oper} {all : List Oper} {k : SV → Prop} (hT : T.All P) (h : vheadOp P T w0 X D o E H k) :
    ∃ s, k s ∧ ∀ L, HR w0 X H L → ∀ a, Fr N (venv E) D a → ∀ w, Wd ⟨w0, X, L, D⟩ w → (execOp a.eval o).run P w = .ok (.value s.val) w ∨ ∃ f args, (execOp a.eval o).run P w = .ok (.enter f args) w ∧ CallsIn (FR none) 0 P f args w (fun e w' => e = .returned s.val ∧ Kp [] w w') := by
  obtain ⟨dst, op, ty, pos, aft, g⟩ := o
  have pure_ : vpure P T op E H k → ∃ s, k s ∧ ∀ L, HR w0 X H L → ∀ a, Fr N (venv E) D a → ∀ w, Wd ⟨w0, X, L, D⟩ w → (execOp a.eval ⟨dst, op, ty, pos, aft, g⟩).run P w = .ok (.value s.val) w ∨ ∃ f args, (execOp a.eval ⟨dst, op, ty, pos, aft, g⟩).run P w = .ok (.enter f args) w ∧ CallsIn (FR none) 0 P f args w (fun e w' => e = .returned s.val ∧ Kp [] w w') := fun h => by
    obtain ⟨s, hs, hy⟩ := vpure_ok (w0 := w0) (X := X) (N := N) (D := D) (dst := dst) (ty := ty) (pos := pos) (aft := aft) (g := g) hT h
    exact ⟨s, hs, fun L hL a ha w hw => .inl (hy L hL a w ha hw)⟩
  unfold vheadOp at h
  simp only at h
  split at h
  · rename_i c
    obtain ⟨callee, args, ats⟩ := c
    obtain ⟨args⟩ := args
    simp only at h
    split at h
    · rename_i f
      obtain ⟨s, hs, h⟩ := get1_ok h
      split at h
      · rename_i fk fs cs
        obtain ⟨l, hl, h⟩ := getL_ok h
        obtain ⟨v, fn, hF, hc, h⟩ := h
        simp only [SV.val] at hs
        refine ⟨v, h, fun L hL a ha w hw => .inr ⟨fk, _, run_call ha hs hl, ?_⟩⟩
        have := hc w L hL hw
        rw [vals_append, vals_append] at this
        exact callsIn_FR this
      · exact h.elim
    · exact pure_ h
  · exact pure_ h

theorem dropS_cons {l : List Oper} {k : Nat} {o : Oper} {t : List Oper} (h : l.drop k = o :: t) : nthO l k = some o ∧ l.drop (k + 1) = t := by
  induction l generalizing k with
  | nil => simp at h
  | cons x l ih =>
    cases k with
    | zero => simp at h; simp [nthO, h]
    | succ k => have := ih (k := k) (by simpa using h); simpa [nthO] using this

theorem vhead_ok (hT : T.All P) {all : List Oper} {n : Nat} {G : Act → World → Prop} (hL : HR w0 X H L) : ∀ (f : Nat) {l : List Oper} {listed : Array Bool} {k : Nat} {E : SEnv} {kk : SEnv → Prop}, vhead P T N w0 X D all l f E H kk → all.drop k = l → readyAll all n f listed k = true →
    k + f = n → (∀ i, i < k → listed.getD i false = true) → listed.size = all.length → n ≤ all.length → (∀ E', kk E' → St N (venv E') D ⟨w0, X, L, D⟩ G) → GSt N (venv E) D ⟨w0, X, L, D⟩ P r ⟨w0, X, L, D⟩ all n G f listed k
  | 0, l, listed, k, E, kk, h, hd, hr, hk, hl, hs, hn, hG => by
    have h : kk E := by unfold vhead at h; exact h
    refine GSt.done rfl (List.all_eq_true.2 fun i hi => hl i (by simp at hi; omega)) (hG E h)
  | f + 1, [], listed, k, E, kk, h, hd, hr, hk, hl, hs, hn, hG => by unfold vhead at h; exact h.elim
  | f + 1, o :: l, listed, k, E, kk, h, hd, hr, hk, hl, hs, hn, hG => by
    obtain ⟨hi, hd'⟩ := dropS_cons hd
    simp only [readyAll, Bool.and_eq_true] at hr
    have hl' : ∀ i, i < k + 1 → (listed.setIfInBounds k true).getD i false = true := fun i hi => by
      have hks : k < listed.size := by omega
      by_cases e : k = i
      · subst e; simp [Array.getD_eq_getD_getElem?, hks]
      · rw [getD_set_ne false e]; exact hl i (by omega)
    have rec_ : ∀ {E' : SEnv}, vhead P T N w0 X D all l f E' H kk → GSt N (venv E') D ⟨w0, X, L, D⟩ P r ⟨w0, X, L, D⟩ all n G f (listed.setIfInBounds k true) (k + 1) := fun h =>
      vhead_ok hT hL f h hd' hr.2 (by omega) hl' (by simpa using hs) hn hG
    have doit : ∀ {v : SV}, (putE N o.dst v E fun E' => vhead P T N w0 X D all l f E' H kk) → (∀ a, Fr N (venv E) D a → QAt P all.toArray (Wd ⟨w0, X, L, D⟩) o v.val a) → GSt N (venv E) D ⟨w0, X, L, D⟩ P r ⟨w0, X, L, D⟩ all n G (f + 1) listed k := fun {v} hp hq => by
      unfold putE at hp
      split at hp
      · rename_i hdst
        exact GSt.first_gen rfl hi hr.1 (fun _ h => h) hq (fun a ha => by rw [hdst]; exact ha.put_none _) (rec_ hp)
      · rename_i d hdst
        split at hp
        · rename_i hlt
          exact GSt.first_gen rfl hi hr.1 (fun _ h => h) hq (E' := venv ((d, v) :: E)) (fun a ha => by rw [hdst]; exact ha.put _ (by simpa using hlt)) (rec_ hp)
        · exact hp.elim
    unfold vhead at h
    rcases gd_cases h with ⟨hg, h⟩ | ⟨y, t, v, hy, ht, hlk, h⟩
    · obtain ⟨s, hs, hrun⟩ := vheadOp_ok (N := N) (all := all) hT h
      have hrun := hrun L hL
      exact doit hs fun a ha => .inl ⟨by simp [Region.wanted, hg], hrun a ha⟩
    · have ht' := nthO_dst ht
      rcases h with ⟨hb, h⟩ | ⟨hb, h⟩
      · obtain ⟨s, hs, hrun⟩ := vheadOp_ok (N := N) (all := all) hT h
        have hrun := hrun L hL
        exact doit hs fun a ha => .inl ⟨by rw [wanted_of ha ht' hlk o (by rw [hy])]; exact hb, hrun a ha⟩
      · exact doit h fun a ha => .inr ⟨by rw [wanted_of ha ht' hlk o (by rw [hy]), hb], rfl⟩

theorem vdraw_ok {id n : Nat} {l : List Oper} {k : SEnv → Heap → Prop} (hT : T.All P) (hm : P.follows .mixedOrders = true) (h : vdraw P T N w0 X D l n E H k) (hk : ∀ E' H', k E' H' → VSt N w0 X E' H' D (Q .normal)) :
    VSt N w0 X E H D ((Code.region id l.toArray true).wpIn (FR r) 0 P Q) := by
  intro L hL
  obtain ⟨hb, h⟩ := h
  simp only [drawB, Bool.and_eq_true, decide_eq_true_eq] at hb
  obtain ⟨⟨hB, hr⟩, hn⟩ := hb
  have htl : ∀ (n : Nat) (l : List Oper), n ≤ l.length → Tl n l (l.drop n) := by
    intro n
    induction n with
    | zero => intro l _; exact .here
    | succ n ih =>
      intro l h
      cases l with
      | nil => simp at h
      | cons x l => exact .skip (ih l (by simpa using h))
  refine St.drawA hm (htl n l hn) hB ?_
  refine vhead_ok hT hL n h (by simp) hr (by omega) (fun i hi => by omega) (by simp) hn fun E' h => ?_
  rw [dropS_eq] at h
  exact vops_ok hT h hk L hL
end

/-! ### Regions of any order -/
inductive Plan where
  | fin
  | q (i : Nat) (p : Plan)
  | alts (l : List (Nat × Plan))

def memN : List Nat → Nat → Bool
  | [], _ => false
  | x :: r, i => match Nat.beq x i with
    | true => true
    | false => memN r i
def allN (done : List Nat) : List Nat → Bool
  | [] => true
  | x :: r => match memN done x with
    | true => allN done r
    | false => false
def bindsOf : List Edge → List Nat
  | [] => []
  | e :: r => match e.ground with
    | .textOnly _ => bindsOf r
    | .gcOnly _ => bindsOf r
    | _ => e.on :: bindsOf r
/-- What neither acts nor hangs on what acts; by number. -/
def calmOps (i : Nat) (calm : List Nat) : List Oper → List Nat
  | [] => calm
  | o :: r => match (match quiet o.op with | true => allN calm (bindsOf o.after.toList) | false => false) with
    | true => calmOps (i + 1) (i :: calm) r
    | false => calmOps (i + 1) calm r
def readyOps (done : List Nat) (i : Nat) : List Oper → List Nat
  | [] => []
  | o :: r => match (match memN done i with | true => false | false => allN done (bindsOf o.after.toList)) with
    | true => i :: readyOps done (i + 1) r
    | false => readyOps done (i + 1) r
def firstIn (calm : List Nat) : List Nat → Option Nat
  | [] => none
  | x :: r => match memN calm x with
    | true => some x
    | false => firstIn calm r
def mkPlan (all : List Oper) (calm : List Nat) : Nat → List Nat → Plan
  | 0, _ => .fin
  | f + 1, done => match readyOps done 0 all with
    | [] => .fin
    | x :: r => match firstIn calm (x :: r) with
      | some i => .q i (mkPlan all calm f (i :: done))
      | none => .alts ((x :: r).map fun i => (i, mkPlan all calm f (i :: done)))

mutual
def planB (all : List Oper) (n : Nat) : Plan → Nat → Array Bool → Bool
  | .fin, f, listed => decide (f = 0) && (List.range n).all fun i => listed.getD i false
  | .q i p, f, listed => match f with
    | 0 => false
    | f + 1 => readyB all.toArray n listed i && planB all n p f (listed.setIfInBounds i true)
  | .alts l, f, listed => match f with
    | 0 => false
    | f + 1 => (headReady all.toArray n listed == l.map fun x => x.1) && plansB all n l f listed
def plansB (all : List Oper) (n : Nat) : List (Nat × Plan) → Nat → Array Bool → Bool
  | [], _, _ => true
  | (i, p) :: r, f, listed => planB all n p f (listed.setIfInBounds i true) && plansB all n r f listed
end

def subQ : Heap → Heap → Prop
  | [], _ => True
  | x :: r, H => lkH H x.1 = some x.2 ∧ subQ r H

mutual
def vplan (P : Program) (T : Tr) (N : Nat) (w0 : World) (X D : List Nat) (all : List Oper) (H0 : Heap) : Plan → SEnv → Heap → (SEnv → Heap → Prop) → Prop
  | .fin, E, H, k => k E H
  | .q i p, E, H, k => match nthO all i with
    | none => False
    | some o => gd all o E (vheadOp P T w0 X D o E H0 fun s => putE N o.dst s E fun E' => vplan P T N w0 X D all H0 p E' H k) (putE N o.dst (.v undef) E fun E' => vplan P T N w0 X D all H0 p E' H k)
  | .alts l, E, H, k => vplans P T N w0 X D all H0 l E H k
def vplans (P : Program) (T : Tr) (N : Nat) (w0 : World) (X D : List Nat) (all : List Oper) (H0 : Heap) : List (Nat × Plan) → SEnv → Heap → (SEnv → Heap → Prop) → Prop
  | [], E, H, k => True
  | (i, p) :: r, E, H, k => (match nthO all i with
    | none => False
    | some o => gd all o E (vop P T N w0 X D o E H fun E' H' => subQ H0 H' ∧ vplan P T N w0 X D all H0 p E' H' k) (putE N o.dst (.v undef) E fun E' => vplan P T N w0 X D all H0 p E' H k)) ∧ vplans P T N w0 X D all H0 r E H k
end
def rmH (rm : List Nat) : Heap → Heap
  | [] => []
  | (i, a) :: r => match memN rm i with
    | true => rmH rm r
    | false => (i, a) :: rmH rm r
def freshB : Heap → Nat → Bool
  | [], _ => true
  | x :: r, t => match Nat.beq x.1 t with
    | true => false
    | false => freshB r t
def distinctB : Heap → Bool
  | [] => true
  | x :: r => match freshB r x.1 with
    | true => distinctB r
    | false => false
def anyB (l : List Oper) : Bool := headB l.toArray l.length && planB l l.length (mkPlan l (calmOps 0 [] l) (l.length + 1) []) l.length (Array.replicate l.length false)
/-- All orders; rm: the blocks that the region turns. -/
def vany (P : Program) (T : Tr) (N : Nat) (w0 : World) (X D : List Nat) (l : List Oper) (rm : List Nat) (E : SEnv) (H : Heap) (k : SEnv → Heap → Prop) : Prop :=
  anyB l = true ∧
  nrm (rmH rm H) fun H0 => distinctB H0 = true ∧ subQ H0 H ∧ vplan P T N w0 X D l H0 (mkPlan l (calmOps 0 [] l) (l.length + 1) []) E H k

def HW (w0 : World) (X : List Nat) (H : Heap) (D : List Nat) (w : World) : Prop := ∃ L, HR w0 X H L ∧ Wd ⟨w0, X, L, D⟩ w
theorem HW.kept {w0 : World} {X D : List Nat} {H : Heap} {w w' : World} (h : HW w0 X H D w) (hk : Kp [] w w') : HW w0 X H D w' := let ⟨L, h1, h2⟩ := h; ⟨L, h1, h2.kept hk⟩

def eraseH : Heap → Nat → Heap
  | [], _ => []
  | x :: r, t => bif Nat.beq x.1 t then r else x :: eraseH r t
theorem HR.erase {w0 : World} {X : List Nat} : ∀ {H : Heap} {L : List (Nat × Obj)} {i : Nat} {a : AO}, HR w0 X H L → lkH H i = some a → ∃ M A, EntR w0 X a M ∧ HR w0 X (eraseH H i) A ∧ L.Perm (M ++ A)
  | [], _, _, _, _, h => by cases h
  | (j, x) :: r, _, i, a, .cons (M := M) (L := L) hx hs, h => by
    simp only [lkH] at h
    cases hb : Nat.beq j i with
    | true =>
      rw [hb] at h
      simp only [cond_true, Option.some.injEq] at h
      subst h
      exact ⟨M, L, hx, by simpa [eraseH, hb] using hs, .refl _⟩
    | false =>
      rw [hb] at h
      simp only [cond_false] at h
      obtain ⟨M2, A, h1, h2, h3⟩ := HR.erase hs h
      refine ⟨M2, M ++ A, h1, ?_, ?_⟩
      · simp only [eraseH, hb, cond_false]; exact .cons hx h2
      · refine (List.Perm.append_left M h3).trans ?_
        rw [← List.append_assoc, ← List.append_assoc]
        exact List.Perm.append_right _ List.perm_append_comm
theorem lkH_erase : ∀ {H : Heap} {i j : Nat}, Nat.beq j i = false → lkH (eraseH H i) j = lkH H j
  | [], _, _, _ => rfl
  | (x, ax) :: r, i, j, h => by
    simp only [eraseH]
    cases hb : Nat.beq x i with
    | true =>
      have hxi := Nat.eq_of_beq_eq_true hb
      simp only [cond_true, lkH]
      have : Nat.beq x j = false := by
        cases hq : Nat.beq x j with
        | false => rfl
        | true => rw [← Nat.eq_of_beq_eq_true hq, hxi] at h; simp at h
      rw [this]; rfl
    | false =>
      simp only [cond_false, lkH, lkH_erase h]
theorem subQ_erase : ∀ {A H : Heap} {i : Nat}, freshB A i = true → subQ A H → subQ A (eraseH H i)
  | [], _, _, _, _ => trivial
  | x :: r, H, i, hf, h => by
    simp only [freshB] at hf
    split at hf
    · cases hf
    · rename_i hb
      exact ⟨by rw [lkH_erase hb]; exact h.1, subQ_erase hf h.2⟩
theorem subQ_ok {w0 : World} {X : List Nat} : ∀ {A H : Heap} {L : List (Nat × Obj)}, distinctB A = true → subQ A H → HR w0 X H L → ∃ L' R, HR w0 X A L' ∧ L.Perm (L' ++ R)
  | [], H, L, _, _, _ => ⟨[], L, .nil, .refl _⟩
  | x :: r, H, L, hd, h, hL => by
    simp only [distinctB] at hd
    split at hd
    · rename_i hf
      obtain ⟨M, A, h1, h2, h3⟩ := hL.erase h.1
      obtain ⟨L', R, h4, h5⟩ := subQ_ok hd (subQ_erase hf h.2) h2
      refine ⟨M ++ L', R, .cons h1 h4, h3.trans ?_⟩
      rw [List.append_assoc]
      exact List.Perm.append_left M h5
    · cases hd
theorem subQ_hw {w0 : World} {X D : List Nat} {A H : Heap} {w : World} (hd : distinctB A = true) (h : subQ A H) (hw : HW w0 X H D w) : HW w0 X A D w := by
  obtain ⟨L, hL, hw⟩ := hw
  obtain ⟨L', R, h1, h2⟩ := subQ_ok hd h hL
  exact ⟨L', h1, (hw.perm h2).sub (List.sublist_append_left _ _)⟩

section
variable {P : Program} {T : Tr} {N : Nat} {D : List Nat} {w0 : World} {X : List Nat} {r : Option Nat} {Q : Exit → Act → World → Prop} {all : List Oper} {n : Nat} {H0 : Heap} {G : Act → World → Prop}

theorem VSt.hw {E : SEnv} {H : Heap} {φ : Act → World → Prop} : VSt N w0 X E H D φ ↔ ∀ a w, Fr N (venv E) D a → HW w0 X H D w → φ a w :=
  ⟨fun h a w ha ⟨L, hL, hw⟩ => h L hL a w ha hw, fun h L hL a w ha hw => h a w ha ⟨L, hL, hw⟩⟩

theorem vplan_q {i : Nat} {o : Oper} {v : Value} {E E' : SEnv} {H : Heap} {f : Nat} {listed : Array Bool} (hB : headB all.toArray n = true) (hd : distinctB H0 = true) (hsub : subQ H0 H) (hs : listed.size = all.toArray.size) (hi : nthO all i = some o) (hb : readyB all.toArray n listed i = true)
    (hq : ∀ a, Fr N (venv E) D a → QAt P all.toArray (HW w0 X H0 D) o v a) (hput : ∀ a, Fr N (venv E) D a → Fr N (venv E') D (a.put o.dst v))
    (h : Good P r (HW w0 X H0 D) all.toArray n G f (listed.setIfInBounds i true) (fun a w => Fr N (venv E') D a ∧ HW w0 X H D w)) : Good P r (HW w0 X H0 D) all.toArray n G (f + 1) listed (fun a w => Fr N (venv E) D a ∧ HW w0 X H D w) := by
  simp only [readyB, Bool.and_eq_true, decide_eq_true_eq] at hb
  refine Good.first (nthO_spec _ _ _ hi) hB hb.1.1 f listed _ hs (Region.free_spec (nthO_spec _ _ _ hi) hb.2) (by simpa using hb.1.2) (fun a w h => hq a h.1) (fun a w h => subQ_hw hd hsub h.2) (fun a w w' h hk => ⟨h.1, h.2.kept hk⟩) ?_
  refine Good.anti f _ ?_ h
  rintro a w ⟨a0, rfl, h1, h2⟩
  exact ⟨hput a0 h1, h2⟩

theorem nthO_dst' {j t : Nat} (h : (nthO all j).bind (·.dst) = some t) : (all.toArray[j]?).bind (·.dst) = some t := nthO_dst h

mutual
theorem vplan_ok (hT : T.All P) (hB : headB all.toArray n = true) (hd : distinctB H0 = true) {k : SEnv → Heap → Prop} (hk : ∀ E' H', k E' H' → VSt N w0 X E' H' D G) : ∀ {p : Plan} {E : SEnv} {H : Heap} {f : Nat} {listed : Array Bool}, planB all n p f listed = true → listed.size = all.toArray.size → subQ H0 H → vplan P T N w0 X D all H0 p E H k →
    Good P r (HW w0 X H0 D) all.toArray n G f listed (fun a w => Fr N (venv E) D a ∧ HW w0 X H D w)
  | .fin, E, H, f, listed, hp, hs, hsub, h => by
    simp only [planB, Bool.and_eq_true, decide_eq_true_eq] at hp
    obtain ⟨rfl, hp⟩ := hp
    unfold vplan at h
    exact ⟨hp, fun a w ht => VSt.hw.1 (hk E H h) a w ht.1 ht.2⟩
  | .q i p, E, H, f, listed, hp, hs, hsub, h => by
    unfold planB at hp
    split at hp
    · cases hp
    · rename_i f
      simp only [Bool.and_eq_true] at hp
      unfold vplan at h
      split at h
      · exact h.elim
      · rename_i o hi
        have rec_ : ∀ {E' : SEnv}, vplan P T N w0 X D all H0 p E' H k → Good P r (HW w0 X H0 D) all.toArray n G f (listed.setIfInBounds i true) (fun a w => Fr N (venv E') D a ∧ HW w0 X H D w) := fun h =>
          vplan_ok hT hB hd hk hp.2 (by simpa using hs) hsub h
        have doit : ∀ {v : SV}, (putE N o.dst v E fun E' => vplan P T N w0 X D all H0 p E' H k) → (∀ a, Fr N (venv E) D a → QAt P all.toArray (HW w0 X H0 D) o v.val a) → Good P r (HW w0 X H0 D) all.toArray n G (f + 1) listed (fun a w => Fr N (venv E) D a ∧ HW w0 X H D w) := fun {v} hpt hq => by
          unfold putE at hpt
          split at hpt
          · rename_i hdst
            exact vplan_q hB hd hsub hs hi hp.1 hq (fun a ha => by rw [hdst]; exact ha.put_none _) (rec_ hpt)
          · rename_i d hdst
            split at hpt
            · rename_i hlt
              exact vplan_q hB hd hsub hs hi hp.1 hq (E' := (d, v) :: E) (fun a ha => by rw [hdst]; exact ha.put _ (by simpa using hlt)) (rec_ hpt)
            · exact hpt.elim
        rcases gd_cases h with ⟨hg, h⟩ | ⟨y, t, v, hy, ht, hlk, h⟩
        · obtain ⟨s, hs1, hrun⟩ := vheadOp_ok (N := N) (all := all) hT h
          exact doit hs1 fun a ha => .inl ⟨by simp [Region.wanted, hg], fun w ⟨L, hL, hw⟩ => hrun L hL a ha w hw⟩
        · have ht' := nthO_dst ht
          rcases h with ⟨hb, h⟩ | ⟨hb, h⟩
          · obtain ⟨s, hs1, hrun⟩ := vheadOp_ok (N := N) (all := all) hT h
            exact doit hs1 fun a ha => .inl ⟨by rw [wanted_of ha ht' hlk o (by rw [hy])]; exact hb, fun w ⟨L, hL, hw⟩ => hrun L hL a ha w hw⟩
          · exact doit h fun a ha => .inr ⟨by rw [wanted_of ha ht' hlk o (by rw [hy]), hb], rfl⟩
  | .alts l, E, H, f, listed, hp, hs, hsub, h => by
    unfold planB at hp
    split at hp
    · cases hp
    · rename_i f
      simp only [Bool.and_eq_true, beq_iff_eq] at hp
      unfold vplan at h
      intro j hj hjn
      have hj := headReady_mem hj hjn
      rw [hp.1] at hj
      exact vplans_ok hT hB hd hk hp.2 hs hsub h j hj
theorem vplans_ok (hT : T.All P) (hB : headB all.toArray n = true) (hd : distinctB H0 = true) {k : SEnv → Heap → Prop} (hk : ∀ E' H', k E' H' → VSt N w0 X E' H' D G) : ∀ {l : List (Nat × Plan)} {E : SEnv} {H : Heap} {f : Nat} {listed : Array Bool}, plansB all n l f listed = true → listed.size = all.toArray.size → subQ H0 H → vplans P T N w0 X D all H0 l E H k →
    ∀ j, j ∈ l.map (fun x => x.1) → ∃ (ι : Type) (T' : ι → Act → World → Prop), (∀ x a w w', T' x a w → Kp [] w w' → T' x a w') ∧ (∀ x a w, T' x a w → HW w0 X H0 D w) ∧
        (∀ a w, (fun a w => Fr N (venv E) D a ∧ HW w0 X H D w) a w → opN P r all.toArray j (fun a' w' => ∃ x, T' x a' w') a w) ∧ ∀ x, Good P r (HW w0 X H0 D) all.toArray n G f (listed.setIfInBounds j true) (T' x)
  | [], E, H, f, listed, hp, hs, hsub, h, j, hj => by cases hj
  | (i, p) :: rest, E, H, f, listed, hp, hs, hsub, h, j, hj => by
    simp only [plansB, Bool.and_eq_true] at hp
    unfold vplans at h
    simp only [List.map_cons, List.mem_cons] at hj
    rcases hj with rfl | hj
    · obtain ⟨h, -⟩ := h
      split at h
      · exact h.elim
      · rename_i o hi
        have hi' := nthO_spec _ _ _ hi
        -- what the operation leads into
        let ι := { x : SEnv × Heap // subQ H0 x.2 ∧ vplan P T N w0 X D all H0 p x.1 x.2 k }
        let T' : ι → Act → World → Prop := fun x a w => Fr N (venv x.1.1) D a ∧ HW w0 X x.1.2 D w
        have good : ∀ x : ι, Good P r (HW w0 X H0 D) all.toArray n G f (listed.setIfInBounds j true) (T' x) := fun x =>
          vplan_ok hT hB hd hk hp.1 (by simpa using hs) x.2.1 x.2.2
        refine ⟨ι, T', fun x a w w' h hk => ⟨h.1, h.2.kept hk⟩, fun x a w h => subQ_hw hd x.2.1 h.2, fun a w ⟨ha, hw⟩ => ?_, good⟩
        have yes : vop P T N w0 X D o E H (fun E' H' => subQ H0 H' ∧ vplan P T N w0 X D all H0 p E' H' k) → Op1 P r o (fun a' w' => ∃ x, T' x a' w') a w := fun h =>
          VSt.hw.1 (vop_ok hT h fun E' H' h => VSt.hw.2 fun a' w' ha' hw' => ⟨⟨(E', H'), h⟩, ha', hw'⟩) a w ha hw
        have no : (putE N o.dst (.v undef) E fun E' => vplan P T N w0 X D all H0 p E' H k) → ∃ x, T' x (a.put o.dst undef) w := fun h => by
          obtain ⟨E', h, hput⟩ := put_undef (D := D) (Ev := []) h
          exact ⟨⟨(E', H), hsub, h⟩, hput a ha, hw⟩
        unfold opN
        rw [hi']
        simp only
        rcases gd_cases h with ⟨hg, h⟩ | ⟨y, t, v, hy, ht, hlk, h⟩
        · rw [if_pos (by simp [Region.wanted, hg])]; exact yes h
        · have ht' := nthO_dst ht
          rcases h with ⟨hb, h⟩ | ⟨hb, h⟩
          · rw [wanted_of ha ht' hlk o (by rw [hy]), hb, if_pos rfl]; exact yes h
          · rw [wanted_of ha ht' hlk o (by rw [hy]), hb, if_neg (by simp)]; exact no h
    · exact vplans_ok hT hB hd hk hp.2 hs hsub h.2 j hj
end

theorem HW.drew {H : Heap} {w : World} (h : HW w0 X H D w) : HW w0 X H D { w with drawn := w.drawn + 1 } := let ⟨L, h1, h2⟩ := h; ⟨L, h1, h2.drew⟩

theorem vany_ok {id : Nat} {l : List Oper} {rm : List Nat} {E : SEnv} {H : Heap} {k : SEnv → Heap → Prop} (hT : T.All P) (hm : P.follows .mixedOrders = true) (h : vany P T N w0 X D l rm E H k) (hk : ∀ E' H', k E' H' → VSt N w0 X E' H' D (Q .normal)) :
    VSt N w0 X E H D ((Code.region id l.toArray true).wpIn (FR r) 0 P Q) := by
  obtain ⟨hb, h⟩ := h
  rw [nrm_iff] at h
  obtain ⟨hd, hsub, h⟩ := h
  simp only [anyB, Bool.and_eq_true] at hb
  obtain ⟨hB, hp⟩ := hb
  refine VSt.hw.2 fun a w ha hw => wpIn_region_any hm ?_
  have hz : (Array.replicate l.length false).size = l.toArray.size := by simp
  have inv0 : HeadInv .any l.toArray l.length (Array.replicate l.length false) :=
    ⟨hz, fun j oj _ hl => (by rw [getD_replicate_false] at hl; cases hl), fun t _ ht => getD_in (by rw [hz]; exact ht) (getD_replicate_false _ _)⟩
  have hT2 : Fr N (venv E) D a ∧ HW w0 X H D { w with drawn := w.drawn + 1 } := ⟨ha, hw.drew⟩
  have hg := vplan_ok (r := r) (G := Q .normal) hT hB hd hk hp (by simp) hsub h
  have hl : wpListIn (FR r) 0 P l.toArray Q (l.toArray.toList.drop l.length) = Q .normal := by
    simp [wpListIn]
  have := Good.wp hB l.length (Array.replicate l.length false) _ hz inv0 (by
    rw [show (List.range l.length).filter (fun j => !(Array.replicate l.length false).getD j false) = List.range l.length from List.filter_eq_self.2 fun j _ => by rw [getD_replicate_false]; rfl]
    simp) (by rw [hl]; exact hg) a _ hT2
  have he : l.length + (l.toArray.size - l.length) = l.toArray.size := by simp
  rw [he] at this
  simpa using this
end

/-! ### Code -/
def thenK (f : SEnv → Heap → List Nat → Prop) (k : Exit → SEnv → Heap → List Nat → Prop) : Exit → SEnv → Heap → List Nat → Prop
  | .normal => f
  | .exit i => k (.exit i)
  | .goto l => k (.goto l)
  | .ret => k .ret
  | .panic c => k (.panic c)
  | .outgrown => k .outgrown
def blkK (i : Nat) (k : Exit → SEnv → Heap → List Nat → Prop) : Exit → SEnv → Heap → List Nat → Prop
  | .normal => k .normal
  | .exit j => match Nat.beq j i with
    | true => k .normal
    | false => k (.exit j)
  | .goto l => k (.goto l)
  | .ret => k .ret
  | .panic c => k (.panic c)
  | .outgrown => k .outgrown

def Means (P : Program) (N : Nat) (w0 : World) (X : List Nat) (r : Option Nat) (c : Code) (k : Exit → SEnv → Heap → List Nat → Prop) (E : SEnv) (H : Heap) (D : List Nat) : Prop :=
  ∀ Q : Exit → Act → World → Prop, (∀ e E' H' D', k e E' H' D' → VSt N w0 X E' H' D' (Q e)) → VSt N w0 X E H D (c.wpIn (FR r) 0 P Q)
def LoopV (P : Program) (N : Nat) (w0 : World) (X : List Nat) (r : Option Nat) (c : Code) (k : Exit → SEnv → Heap → List Nat → Prop) (E : SEnv) (H : Heap) (D : List Nat) : Prop := Means P N w0 X r (.loop c) k E H D
def RangeV (P : Program) (N : Nat) (w0 : World) (X : List Nat) (r : Option Nat) (c : Code) (k : Exit → SEnv → Heap → List Nat → Prop) (E : SEnv) (H : Heap) (D : List Nat) : Prop := Means P N w0 X r c k E H D
/-- A region that is walked by hand. -/
def RegionV (P : Program) (N : Nat) (w0 : World) (X : List Nat) (r : Option Nat) (c : Code) (k : Exit → SEnv → Heap → List Nat → Prop) (E : SEnv) (H : Heap) (D : List Nat) : Prop := Means P N w0 X r c k E H D

/-- Which regions are walked by hand (none), or in all orders (some: the blocks that they turn). -/
abbrev Modes := List (Nat × Option (List Nat))
def modeOf : Modes → Nat → Option (Option (List Nat))
  | [], _ => none
  | (j, m) :: r, i => match Nat.beq j i with
    | true => some m
    | false => modeOf r i

def vcode (P : Program) (T : Tr) (N : Nat) (w0 : World) (X : List Nat) (r : Option Nat) (hand : Modes) : Code → (Exit → SEnv → Heap → List Nat → Prop) → SEnv → Heap → List Nat → Prop
  | .skip, k, E, H, D => k .normal E H D
  | .label _, k, E, H, D => k .normal E H D
  | .exit i, k, E, H, D => k (.exit i) E H D
  | .ret, k, E, H, D => k .ret E H D
  | .seq x y, k, E, H, D => vcode P T N w0 X r hand x (thenK (vcode P T N w0 X r hand y k) k) E H D
  | .cond c x y, k, E, H, D => get1 E c fun s => match s with
    | .bool b => match b with
      | true => vcode P T N w0 X r hand x k E H D
      | false => vcode P T N w0 X r hand y k E H D
    | _ => False
  | .block i c, k, E, H, D => vcode P T N w0 X r hand c (blkK i k) E H D
  | .region id ops dr, k, E, H, D => match modeOf hand id with
    | some none => RegionV P N w0 X r (.region id ops dr) k E H D
    | some (some rm) => match dr with
      | false => False
      | true => vany P T N w0 X D ops.toList rm E H fun E' H' => k .normal E' H' D
    | none => match dr with
      | false => vops P T N w0 X D ops.toList ops.toList E H fun E' H' => k .normal E' H' D
      | true => vdraw P T N w0 X D ops.toList (tailAt ops.toList) E H fun E' H' => k .normal E' H' D
  | .loop c, k, E, H, D => LoopV P N w0 X r c k E H D
  | .rangeFunc f ps a b, k, E, H, D => RangeV P N w0 X r (.rangeFunc f ps a b) k E H D
  | _, k, E, H, D => False

section
variable {P : Program} {T : Tr} {N : Nat} {w0 : World} {X : List Nat} {r : Option Nat} {hand : Modes}
theorem vcode_ok (hT : T.All P) (hm : P.follows .mixedOrders = true) : ∀ {c : Code} {k : Exit → SEnv → Heap → List Nat → Prop} {E : SEnv} {H : Heap} {D : List Nat}, vcode P T N w0 X r hand c k E H D → Means P N w0 X r c k E H D
  | .skip, k, E, H, D, h => fun Q hk L hL => St.skip (hk _ _ _ _ h L hL)
  | .label _, k, E, H, D, h => fun Q hk L hL => St.label (hk _ _ _ _ h L hL)
  | .exit i, k, E, H, D, h => fun Q hk L hL => St.exit (hk _ _ _ _ h L hL)
  | .ret, k, E, H, D, h => fun Q hk L hL => St.ret (hk _ _ _ _ h L hL)
  | .seq x y, k, E, H, D, h => fun Q hk L hL => by
    refine St.seq (vcode_ok hT hm (c := x) (by unfold vcode at h; exact h) _ ?_ L hL)
    intro e E' H' D' he
    cases e with
    | normal => exact vcode_ok hT hm (c := y) he Q hk
    | exit i => exact hk _ _ _ _ he
    | goto l => exact hk _ _ _ _ he
    | ret => exact hk _ _ _ _ he
    | panic c => exact hk _ _ _ _ he
    | outgrown => exact hk _ _ _ _ he
  | .cond c x y, k, E, H, D, h => fun Q hk L hL => by
    unfold vcode at h
    obtain ⟨s, hs, h⟩ := get1_ok h
    split at h
    · split at h
      · exact St.cond_true hs (vcode_ok hT hm h Q hk L hL)
      · exact St.cond_false hs (vcode_ok hT hm h Q hk L hL)
    · exact h.elim
  | .block i c, k, E, H, D, h => fun Q hk L hL => by
    refine St.block (vcode_ok hT hm (c := c) (by unfold vcode at h; exact h) _ ?_ L hL)
    intro e E' H' D' he
    cases e with
    | normal => exact hk _ _ _ _ he
    | exit j =>
      cases hb : Nat.beq j i with
      | true =>
        simp only [blkK, hb] at he
        obtain rfl := Nat.eq_of_beq_eq_true hb
        exact fun L hL => St.inb_exit (hk _ _ _ _ he L hL)
      | false =>
        simp only [blkK, hb] at he
        exact fun L hL => St.inb_other hb (hk _ _ _ _ he L hL)
    | goto l => exact hk _ _ _ _ he
    | ret => exact hk _ _ _ _ he
    | panic c => exact hk _ _ _ _ he
    | outgrown => exact hk _ _ _ _ he
  | .region id ops dr, k, E, H, D, h => fun Q hk => by
    obtain ⟨ops⟩ := ops
    unfold vcode at h
    split at h
    · exact h Q hk
    · cases dr with
      | false => exact h.elim
      | true => exact vany_ok hT hm h fun E' H' h => hk _ _ _ _ h
    · cases dr with
      | false => exact fun L hL => St.region (vops_ok hT h (fun E' H' h => hk _ _ _ _ h) L hL)
      | true => exact vdraw_ok hT hm h fun E' H' h => hk _ _ _ _ h
  | .loop c, k, E, H, D, h => by unfold vcode at h; exact h
  | .rangeFunc f ps a b, k, E, H, D, h => by unfold vcode at h; exact h
  | .scope _, k, E, H, D, h => by unfold vcode at h; exact h.elim
  | .goto _, k, E, H, D, h => by unfold vcode at h; exact h.elim
  | .refuse _, k, E, H, D, h => by unfold vcode at h; exact h.elim
end
end Go.Proofs.Ytikaonfnaobciaa
