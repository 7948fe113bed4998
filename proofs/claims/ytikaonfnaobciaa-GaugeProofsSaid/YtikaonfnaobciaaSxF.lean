/- Regions that draw their order. What yields one value in a whole class of worlds may be taken first, whatever else may come up; what is left is taken in every order. -/
import Derived.Test.YtikaonfnaobciaaSxE
import Derived.StillTail
import Derived.KernelRfl
namespace Go.Proofs.Ytikaonfnaobciaa
open Go.RowKit

section
variable {P : Program} {r : Option Nat} {Q : Exit → Act → World → Prop} {ops : Array Oper} {C : World → Prop}

/-- Operation i comes up; then K. -/
def opN (P : Program) (r : Option Nat) (ops : Array Oper) (i : Nat) (K : Act → World → Prop) (a : Act) (w : World) : Prop :=
  match ops[i]? with
  | none => False
  | some o => if Region.wanted o (yielded ops a.tmps) then Op1 P r o K a w else K (a.put o.dst undef) w

theorem Op1.mono {o : Oper} {K K' : Act → World → Prop} {a : Act} {w : World} (h : ∀ a w, K a w → K' a w) (hh : Op1 P r o K a w) : Op1 P r o K' a w := by
  unfold Op1 at *
  generalize (execOp a.eval o).run P w = x at *
  cases x with
  | halt _ _ => exact hh
  | ok x w' =>
    cases x <;> simp only at hh ⊢ <;> first
      | exact h _ _ hh
      | exact CallsIn.mono hh (fun e w'' ⟨v, he, hk⟩ => ⟨v, he, h _ _ hk⟩)
      | exact RoundIn.mono hh (fun e w'' ⟨v, he, hk⟩ => ⟨v, he, h _ _ hk⟩)
      | exact hh

theorem opN_mono {i : Nat} {K K' : Act → World → Prop} {a : Act} {w : World} (h : ∀ a w, K a w → K' a w) (hh : opN P r ops i K a w) : opN P r ops i K' a w := by
  unfold opN at *
  cases ho : ops[i]? with
  | none => simp only [ho] at hh
  | some o =>
    simp only [ho] at hh ⊢
    split
    · rename_i hw; rw [if_pos hw] at hh; exact Op1.mono h hh
    · rename_i hw; rw [if_neg hw] at hh; exact h _ _ hh

theorem opN_wp {i : Nat} {K : Act → World → Prop} {a : Act} {w : World} (hn : ∀ o : Oper, ops[i]? = some o → nodef o.op = true) (h : opN P r ops i K a w) : wpOpIn (FR r) 0 P ops Q i K a w := by
  unfold opN at h
  unfold wpOpIn
  cases ho : ops[i]? with
  | none => simp only [ho] at h
  | some o =>
    simp only [ho] at h ⊢
    split
    · rename_i hw; rw [if_pos hw] at h; exact Op1.wpIn (hn o ho) h
    · rename_i hw; rw [if_neg hw] at h; exact ⟨FR_about _ _ _, h⟩

/-- The head's operations come up in whatever order, from every state of T: each leads from T into one of some sets of states, all within the class C and closed under new blocks; then the tail. -/
def Good (P : Program) (r : Option Nat) (C : World → Prop) (ops : Array Oper) (n : Nat) (L : Act → World → Prop) : Nat → Array Bool → (Act → World → Prop) → Prop
  | 0, listed, T => ((List.range n).all (fun i => listed.getD i false)) = true ∧ ∀ a w, T a w → L a w
  | f + 1, listed, T => ∀ i ∈ Region.ready .any ops listed, i < n → ∃ (ι : Type) (T' : ι → Act → World → Prop), (∀ x a w w', T' x a w → Kp [] w w' → T' x a w') ∧ (∀ x a w, T' x a w → C w) ∧
        (∀ a w, T a w → opN P r ops i (fun a' w' => ∃ x, T' x a' w') a w) ∧ ∀ x, Good P r C ops n L f (listed.setIfInBounds i true) (T' x)

theorem Good.anti {n : Nat} {L : Act → World → Prop} : ∀ (f : Nat) (listed : Array Bool) {T U : Act → World → Prop}, (∀ a w, U a w → T a w) → Good P r C ops n L f listed T → Good P r C ops n L f listed U
  | 0, _, _, _, hs, h => ⟨h.1, fun a w hu => h.2 a w (hs a w hu)⟩
  | _ + 1, _, _, _, hs, h => fun i hi hin => by
      obtain ⟨ι, T', h1, h2, h3, h4⟩ := h i hi hin
      exact ⟨ι, T', h1, h2, fun a w hu => h3 a w (hs a w hu), h4⟩

/-- One value v, in every world of the class; nothing that lay is turned. -/
def QAt (P : Program) (ops : Array Oper) (C : World → Prop) (o : Oper) (v : Value) (a : Act) : Prop :=
  (Region.wanted o (yielded ops a.tmps) = true ∧ ∀ w, C w → (execOp a.eval o).run P w = .ok (.value v) w ∨ ∃ f args, (execOp a.eval o).run P w = .ok (.enter f args) w ∧ CallsIn (FR none) 0 P f args w (fun e w' => e = .returned v ∧ Kp [] w w')) ∨
  (Region.wanted o (yielded ops a.tmps) = false ∧ v = undef)

theorem QAt.opN {i : Nat} {o : Oper} {v : Value} {a : Act} {w : World} {K : Act → World → Prop} (hi : ops[i]? = some o) (h : QAt P ops C o v a) (hw : C w) (hk : ∀ w', Kp [] w w' → K (a.put o.dst v) w') : opN P r ops i K a w := by
  unfold Proofs.Ytikaonfnaobciaa.opN
  simp only [hi]
  rcases h with ⟨h1, h2⟩ | ⟨h1, rfl⟩
  · rw [if_pos h1]
    unfold Op1
    rcases h2 w hw with h3 | ⟨f, args, h3, h4⟩
    · rw [h3]; exact hk w (Kp.refl _ _)
    · rw [h3]
      exact CallsIn.mono h4 fun e w' ⟨he, hc⟩ => ⟨v, he, hk w' hc⟩
  · rw [if_neg (by rw [h1]; simp)]; exact hk w (Kp.refl _ _)

theorem QAt.put {o oj : Oper} {v u : Value} {a : Act} (hs : ∀ cs b, o.op ≠ .select cs b) (hap : ∀ d, oj.dst = some d → d ∉ o.looksAt ops) (h : QAt P ops C o v a) : QAt P ops C o v (a.put oj.dst u) := by
  unfold QAt at *
  rw [wanted_put o a oj.dst u hap, execOp_put o hs a oj.dst u hap]
  exact h

theorem opN_put {j : Nat} {oi oj : Oper} {v : Value} {a : Act} {w : World} {K : Act → World → Prop} (hj : ops[j]? = some oj) (hap : oi.apart ops oj = true) (hsj : ∀ cs b, oj.op ≠ .select cs b) (h : opN P r ops j K (a.put oi.dst v) w) :
    opN P r ops j (fun a' w' => (∃ u, a' = a.put oj.dst u) ∧ K (a'.put oi.dst v) w') a w := by
  obtain ⟨h1, h2, _⟩ := Oper.apart_spec hap
  unfold opN at *
  simp only [hj] at *
  rw [wanted_put oj a oi.dst v h1] at h
  split
  · rename_i hw
    rw [if_pos hw] at h
    unfold Op1 at *
    rw [execOp_put oj hsj a oi.dst v h1] at h
    generalize (execOp a.eval oj).run P w = x at *
    cases x with
    | halt _ _ => exact h
    | ok x w' =>
      cases x <;> simp only at h ⊢ <;> first
        | exact ⟨⟨_, rfl⟩, by rw [← Act.put_comm a v _ h2]; exact h⟩
        | exact CallsIn.mono h (fun e w'' ⟨u, he, hk⟩ => ⟨u, he, ⟨_, rfl⟩, by rw [← Act.put_comm a v u h2]; exact hk⟩)
        | exact RoundIn.mono h (fun e w'' ⟨u, he, hk⟩ => ⟨u, he, ⟨_, rfl⟩, by rw [← Act.put_comm a v u h2]; exact hk⟩)
        | exact h
  · rename_i hw
    rw [if_neg hw] at h
    exact ⟨⟨_, rfl⟩, by rw [← Act.put_comm a v undef h2]; exact h⟩

theorem getD_both' {listed : Array Bool} {i : Nat} (h : listed.getD i true = false) : listed.getD i false = false := by
  rcases Nat.lt_or_ge i listed.size with h' | h'
  · simp [h'] at h ⊢; exact h
  · simp [h'] at h

/-! The head's checks. -/
def edgesB (ops : Array Oper) : Bool := (List.range ops.size).all fun i => match ops[i]? with | some o => o.after.all fun e => !Region.binds .any e || decide (e.on < i) | none => true
def headB (ops : Array Oper) (n : Nat) : Bool :=
  edgesB ops && Region.noSelect ops && decide (n ≤ ops.size) && (decide (n = ops.size) || (Region.sinkB .any ops n && Region.chainB .any ops n)) && (List.range ops.size).all fun i => match ops[i]? with | some o => nodef o.op | none => false

theorem edgesB_spec (h : edgesB ops = true) {i : Nat} {o : Oper} (ho : ops[i]? = some o) {e : Edge} (he : e ∈ o.after) (hb : Region.binds .any e = true) : e.on < i := by
  have h1 := List.all_eq_true.1 h i (List.mem_range.2 (Array.getElem?_eq_some_iff.1 ho).1)
  simp only [ho, Array.all_eq_true_iff_forall_mem, Bool.or_eq_true, Bool.not_eq_true', decide_eq_true_eq] at h1
  rcases h1 e he with h2 | h2
  · rw [hb] at h2; cases h2
  · exact h2

theorem getD_tt {listed : Array Bool} {i : Nat} (h : listed.getD i false = true) : listed.getD i true = true := by
  rcases Nat.lt_or_ge i listed.size with h' | h'
  · simp [h'] at h ⊢; exact h
  · simp [h'] at h

/-- The tail, one after the other. -/
theorem tail_seq {n : Nat} (hE : edgesB ops = true) (hc : Region.chainB .any ops n = true) : ∀ (l : List Oper) (k : Nat) (listed : Array Bool) (a : Act) (w : World), (∀ j, l[j]? = ops[k + j]?) → n ≤ k → listed.size = ops.size → k + l.length = ops.size → (∀ i, i < k → listed.getD i false = true) →
    (∀ t, k ≤ t → t < ops.size → listed.getD t true = false) → wpListIn (FR r) 0 P ops Q l a w → wpAnyIn (FR r) 0 P .any ops Q l.length listed a w
  | [], k, listed, a, w, hl, hn, hs, hk, hd, hu, h => by
    refine ⟨List.eq_nil_iff_forall_not_mem.2 fun i hi => ?_, h⟩
    obtain ⟨h0, o, ho, _⟩ := mem_ready.1 hi
    have hi' : i < ops.size := (Array.getElem?_eq_some_iff.1 ho).1
    have := getD_tt (hd i (by simp at hk; omega))
    rw [this] at h0; cases h0
  | o :: l, k, listed, a, w, hl, hn, hs, hk, hd, hu, h => by
    have h0 : ops[k]? = some o := by simpa using (hl 0).symm
    have hks : k < ops.size := (Array.getElem?_eq_some_iff.1 h0).1
    have hready : k ∈ Region.ready .any ops listed := mem_ready.2 ⟨hu k (Nat.le_refl _) hks, o, h0, fun e he hb => hd e.on (edgesB_spec hE h0 he hb)⟩
    refine ⟨fun h1 => (by rw [h1] at hready; cases hready), fun i hi => ?_⟩
    obtain ⟨hiu, oi, hoi, hall⟩ := mem_ready.1 hi
    have his : i < ops.size := (Array.getElem?_eq_some_iff.1 hoi).1
    have hik : i = k := by
      rcases Nat.lt_trichotomy i k with h1 | h1 | h1
      · have := getD_tt (hd i h1); rw [this] at hiu; cases hiu
      · exact h1
      · have h2 := List.all_eq_true.1 hc i (List.mem_range.2 his)
        simp only [Bool.or_eq_true, decide_eq_true_eq] at h2
        rcases h2 with h2 | h2
        · omega
        · obtain ⟨o', ho', e, he, hb, hon⟩ := Region.waitsFor_spec h2
          have : o' = oi := Option.some.inj (ho'.symm.trans hoi)
          subst this
          have h3 := hall e he hb
          rw [hon, getD_both (hu (i - 1) (by omega) (by omega))] at h3
          cases h3
    subst hik
    have hw : wpOpIn (FR r) 0 P ops Q i (wpListIn (FR r) 0 P ops Q l) a w := by unfold wpOpIn; simp only [h0]; exact h
    refine wpOpIn_mono (fun a' w' h' => ?_) hw
    have hls : ∀ j, (listed.setIfInBounds i true).getD j false = (decide (i = j) || listed.getD j false) := fun j => by
      by_cases e : i = j
      · subst e; simp [hs, hks]
      · simp [e]
    refine tail_seq hE hc l (i + 1) _ a' w' (fun j => by have := hl (j + 1); simpa [Nat.add_assoc, Nat.add_comm 1 j] using this) (by omega) (by simp [hs]) (by simp at hk; omega) (fun j hj => ?_) (fun t ht ht' => ?_) h'
    · rw [hls]
      by_cases e : i = j
      · simp [e]
      · simp only [e, decide_false, Bool.false_or]; exact hd j (by omega)
    · rw [getD_set_ne true (by omega)]; exact hu t (by omega) ht'

theorem ready_head {n : Nat} (hB : headB ops n = true) {listed : Array Bool} (hs : listed.size = ops.size) (inv : HeadInv .any ops n listed) {i0 : Nat} (hi0 : i0 < n) (hu : listed.getD i0 false = false) : ∀ i ∈ Region.ready .any ops listed, i < n := by
  simp only [headB, Bool.and_eq_true, Bool.or_eq_true, decide_eq_true_eq] at hB
  obtain ⟨⟨⟨⟨_, _⟩, hn⟩, hT⟩, _⟩ := hB
  intro i hi
  obtain ⟨_, oi, hoi, _⟩ := mem_ready.1 hi
  have his : i < ops.size := (Array.getElem?_eq_some_iff.1 hoi).1
  rcases hT with hT | hT
  · omega
  · rcases Nat.lt_or_ge i n with h | h
    · exact h
    · rcases Nat.lt_or_ge n ops.size with h' | h'
      · exact absurd hi (tail_waits hT.1 hT.2 h' inv _ i0 rfl hi0 (getD_in (by omega) hu) i h)
      · omega

theorem count_set {n : Nat} {listed : Array Bool} (hs : listed.size = ops.size) {i : Nat} (hi : i < n) (his : i < ops.size) (hu : listed.getD i false = false) :
    ((List.range n).filter fun j => !(listed.setIfInBounds i true).getD j false).length + 1 = ((List.range n).filter fun j => !listed.getD j false).length := by
  have key : ∀ (l : List Nat), l.Nodup → i ∈ l → (l.filter fun j => !(listed.setIfInBounds i true).getD j false).length + 1 = (l.filter fun j => !listed.getD j false).length := by
    intro l
    induction l with
    | nil => intro _ h; cases h
    | cons x l ih =>
      intro hnd hm
      simp only [List.nodup_cons] at hnd
      by_cases e : x = i
      · subst e
        have h1 : (listed.setIfInBounds x true).getD x false = true := by simp [hs, his]
        have hrest : (l.filter fun j => !(listed.setIfInBounds x true).getD j false) = l.filter fun j => !listed.getD j false := List.filter_congr fun j hj => by
          rw [getD_set_ne false (fun e => hnd.1 (by rw [e]; exact hj))]
        rw [List.filter_cons, List.filter_cons, h1, hu, hrest]
        simp
      · have h1 : (listed.setIfInBounds i true).getD x false = listed.getD x false := getD_set_ne false (Ne.symm e)
        have := ih hnd.2 ((List.mem_cons.1 hm).resolve_left (Ne.symm e))
        rw [List.filter_cons, List.filter_cons, h1]
        split
        · simp only [List.length_cons]; omega
        · exact this
  exact key _ List.nodup_range (List.mem_range.2 hi)

theorem Good.wp {n : Nat} (hB : headB ops n = true) : ∀ (f : Nat) (listed : Array Bool) (T : Act → World → Prop), listed.size = ops.size → HeadInv .any ops n listed → ((List.range n).filter fun j => !listed.getD j false).length = f →
    Good P r C ops n (wpListIn (FR r) 0 P ops Q (ops.toList.drop n)) f listed T → ∀ a w, T a w → wpAnyIn (FR r) 0 P .any ops Q (f + (ops.size - n)) listed a w := by
  have hB' := hB
  simp only [headB, Bool.and_eq_true, Bool.or_eq_true, decide_eq_true_eq] at hB'
  obtain ⟨⟨⟨⟨hE, _⟩, hn⟩, hT⟩, hnd⟩ := hB'
  intro f
  induction f with
  | zero =>
    intro listed T hs inv _ h a w ht
    have hall : ∀ i, i < n → listed.getD i false = true := fun i hi => List.all_eq_true.1 h.1 i (List.mem_range.2 hi)
    have hl : (ops.toList.drop n).length = ops.size - n := by simp
    rw [Nat.zero_add, ← hl]
    refine tail_seq (n := n) hE ?_ _ n listed a w (fun j => by simp [List.getElem?_drop]) (Nat.le_refl _) hs (by simp; omega) hall inv.tail (h.2 a w ht)
    rcases hT with hT | hT
    · refine List.all_eq_true.2 fun t ht => ?_
      have := List.mem_range.1 ht
      simp; left; omega
    · exact hT.2
  | succ f ih =>
    intro listed T hs inv hcnt h a w ht
    rw [Nat.add_right_comm]
    have h1 : ∃ i, i < n ∧ listed.getD i false = false := by
      cases hq : (List.range n).filter fun j => !listed.getD j false with
      | nil => rw [hq] at hcnt; cases hcnt
      | cons x l =>
        have : x ∈ (List.range n).filter fun j => !listed.getD j false := by rw [hq]; exact .head _
        have := List.mem_filter.1 this
        exact ⟨x, List.mem_range.1 this.1, by simpa using this.2⟩
    have hex : ∃ i, i < n ∧ listed.getD i false = false ∧ ∀ j, j < i → listed.getD j false = true := by
      obtain ⟨i, hi, hu⟩ := h1
      clear hcnt
      induction i using Nat.strongRecOn with
      | _ i ih2 =>
        by_cases h : ∃ j, j < i ∧ listed.getD j false = false
        · obtain ⟨j, hj, hju⟩ := h
          exact ih2 j hj (by omega) hju
        · refine ⟨i, hi, hu, fun j hj => ?_⟩
          cases hq : listed.getD j false with
          | true => rfl
          | false => exact absurd ⟨j, hj, hq⟩ h
    obtain ⟨i0, hi0, hu0, hb0⟩ := hex
    have hs0 : i0 < ops.size := by omega
    have hready : i0 ∈ Region.ready .any ops listed := mem_ready.2 ⟨getD_in (by omega) hu0, ops[i0], Array.getElem?_eq_getElem hs0, fun e he hb => hb0 e.on (edgesB_spec hE (Array.getElem?_eq_getElem hs0) he hb)⟩
    refine ⟨fun h1 => (by rw [h1] at hready; cases hready), fun i hi => ?_⟩
    have hin := ready_head hB hs inv hi0 hu0 i hi
    obtain ⟨ι, T', _, _, hop, hg⟩ := h i hi hin
    have his : i < ops.size := by omega
    have hcs : ((List.range n).filter fun j => !(listed.setIfInBounds i true).getD j false).length = f := by
      have := count_set hs hin his (getD_both' (mem_ready.1 hi).1); omega
    have hno : ∀ o : Oper, ops[i]? = some o → nodef o.op = true := fun o ho => by
      have h1 := List.all_eq_true.1 hnd i (List.mem_range.2 his)
      simpa only [ho] using h1
    exact wpOpIn_mono (fun a' w' ⟨x, hx⟩ => ih _ (T' x) (by simp [hs]) (inv.set hi hin) hcs (hg x) a' w' hx) (opN_wp hno (hop a w ht))

/-- What yields one value in the whole class may be taken first. -/
theorem Good.first {n i : Nat} {L : Act → World → Prop} {oi : Oper} {v : Value} (hi : ops[i]? = some oi) (hB : headB ops n = true) (hin : i < n) :
    ∀ (f : Nat) (listed : Array Bool) (T : Act → World → Prop), listed.size = ops.size →
      (∀ j oj, ops[j]? = some oj → j ≠ i → listed.getD j true = false → (∀ e ∈ oj.after, Region.binds .any e = true → e.on ≠ i) → oi.apart ops oj = true) →
      i ∈ Region.ready .any ops listed → (∀ a w, T a w → QAt P ops C oi v a) → (∀ a w, T a w → C w) → (∀ a w w', T a w → Kp [] w w' → T a w') →
      Good P r C ops n L f (listed.setIfInBounds i true) (fun a w => ∃ a0, a = a0.put oi.dst v ∧ T a0 w) → Good P r C ops n L (f + 1) listed T := by
  have hsel : Region.noSelect ops = true := by simp only [headB, Bool.and_eq_true] at hB; exact hB.1.1.1.2
  intro f
  induction f with
  | zero =>
    intro listed T hs hfree hr hy hC hst H j hj hjn
    by_cases hji : j = i
    · subst hji
      exact ⟨Unit, fun _ => _, fun _ a w w' ⟨a0, e, h⟩ hk => ⟨a0, e, hst a0 w w' h hk⟩, fun _ a w ⟨a0, _, h⟩ => hC a0 w h,
        fun a w ht => (hy a w ht).opN hi (hC a w ht) fun w' hk => ⟨(), a, rfl, hst a w w' ht hk⟩, fun _ => H⟩
    · have h1 := List.all_eq_true.1 H.1 j (List.mem_range.2 hjn)
      rw [getD_set_ne false (Ne.symm hji)] at h1
      have h2 := (mem_ready.1 hj).1
      rw [getD_tt h1] at h2; cases h2
  | succ f ih =>
    intro listed T hs hfree hr hy hC hst H j hj hjn
    by_cases hji : j = i
    · subst hji
      exact ⟨Unit, fun _ => _, fun _ a w w' ⟨a0, e, h⟩ hk => ⟨a0, e, hst a0 w w' h hk⟩, fun _ a w ⟨a0, _, h⟩ => hC a0 w h,
        fun a w ht => (hy a w ht).opN hi (hC a w ht) fun w' hk => ⟨(), a, rfl, hst a w w' ht hk⟩, fun _ => H⟩
    · obtain ⟨ι, T', h1, h2, h3, h4⟩ := H j (ready_mono hj hji) hjn
      obtain ⟨hjun, oj, hoj, hall⟩ := mem_ready.1 hj
      have hun := (mem_ready.1 hr).1
      have hnot : ∀ e ∈ oj.after, Region.binds .any e = true → e.on ≠ i := fun e he hb heq => by
        have h1 := hall e he hb
        rw [heq, getD_both' hun] at h1; cases h1
      have hap := hfree j oj hoj hji hjun hnot
      have hfree' : ∀ k ok, ops[k]? = some ok → k ≠ i → (listed.setIfInBounds j true).getD k true = false →
          (∀ e ∈ ok.after, Region.binds .any e = true → e.on ≠ i) → oi.apart ops ok = true := fun k ok hk hki hku hno => by
        refine hfree k ok hk hki ?_ hno
        by_cases hjk : j = k
        · subst hjk; exact hjun
        · rw [getD_set_ne true hjk] at hku; exact hku
      refine ⟨ι, fun x a w => QAt P ops C oi v a ∧ T' x (a.put oi.dst v) w, fun x a w w' ⟨h5, h6⟩ hk => ⟨h5, h1 x _ w w' h6 hk⟩, fun x a w h => h2 x _ w h.2, fun a w ht => ?_, fun x => ?_⟩
      · refine opN_mono ?_ (opN_put hoj hap (fun cs b => Region.noSelect_spec hsel j oj cs b hoj) (h3 _ w ⟨a, rfl, ht⟩))
        rintro a' w' ⟨⟨u, rfl⟩, x, hx⟩
        exact ⟨x, (hy a w ht).put (fun cs b => Region.noSelect_spec hsel i oi cs b hi) (Oper.apart_spec hap).2.2, hx⟩
      · refine ih (listed.setIfInBounds j true) _ (by simp [hs]) hfree' (ready_mono hr (Ne.symm hji)) (fun a w h => h.1) (fun a w h => h2 x _ w h.2) (fun a w w' ⟨h5, h6⟩ hk => ⟨h5, h1 x _ w w' h6 hk⟩) ?_
        rw [Array.setIfInBounds_comm _ _ hji]
        refine Good.anti f _ ?_ (h4 x)
        rintro a w ⟨a0, rfl, h⟩
        exact h.2
end

/-! ### States -/
/-- From the state on, whatever order is picked; k is where the search for what may be taken first stands. -/
def GSt (N : Nat) (E : Env) (D : List Nat) (S : Sp) (P : Program) (r : Option Nat) (S0 : Sp) (l : List Oper) (n : Nat) (L : Act → World → Prop) (f : Nat) (listed : Array Bool) (_k : Nat) : Prop :=
  headB l.toArray n = true → listed.size = l.toArray.size → Good P r (Wd S0) l.toArray n L f listed (fun a w => Fr N E D a ∧ Wd S w)

def nthO : List Oper → Nat → Option Oper
  | [], _ => none
  | o :: _, 0 => some o
  | _ :: r, k + 1 => nthO r k
theorem nthO_spec : ∀ (l : List Oper) (k : Nat) (o : Oper), nthO l k = some o → l.toArray[k]? = some o
  | [], _, _, h => by cases h
  | x :: r, 0, o, h => by simpa [nthO] using h
  | x :: r, k + 1, o, h => by have := nthO_spec r k o (by simpa [nthO] using h); simpa using this

section
variable {P : Program} {r : Option Nat} {N : Nat} {E : Env} {D : List Nat} {S S0 : Sp} {Q : Exit → Act → World → Prop} {L : Act → World → Prop} {n : Nat} {l : List Oper} {f f1 k : Nat} {listed : Array Bool}
variable {d : Nat} {op : Op} {ty : TypeId} {pos : String} {aft : Array Edge} {v : Value} {g : Option (Nat × Bool)}

theorem Wd.drew {S : Sp} {w : World} (h : Wd S w) : Wd S { w with drawn := w.drawn + 1 } := ⟨⟨h.kp.os, h.kp.tape, h.kp.output, h.kp.size, h.kp.keep⟩, h.own, h.new, h.nd, h.mks, h.mnew, h.mnd, h.nod⟩

theorem Wd.sub {w0 : World} {X M : List Nat} {L L' : List (Nat × Obj)} {w : World} (h : Wd ⟨w0, X, L, M⟩ w) (hs : L'.Sublist L) : Wd ⟨w0, X, L', M⟩ w :=
  ⟨h.kp, fun p hp => h.own p (hs.subset hp), fun p hp => h.new p (hs.subset hp), h.nd.sublist hs, h.mks, h.mnew, h.mnd, fun p hp => h.nod p (hs.subset hp)⟩

/-- Where the tail begins. -/
inductive Tl : Nat → List Oper → List Oper → Prop
  | here {l : List Oper} : Tl 0 l l
  | skip {n : Nat} {x : Oper} {l t : List Oper} (h : Tl n l t) : Tl (n + 1) (x :: l) t
theorem Tl.spec {n : Nat} {l t : List Oper} (h : Tl n l t) : t = l.drop n := by
  induction h with
  | here => rfl
  | skip _ ih => simpa using ih
theorem Tl.nil : Tl 0 [] [] := .here
theorem Tl.one {x : Oper} : Tl 0 [x] [x] := .here
theorem Tl.two {x y : Oper} : Tl 0 [x, y] [x, y] := .here
theorem Tl.three {x y z : Oper} : Tl 0 [x, y, z] [x, y, z] := .here
theorem Tl.four {x y z u : Oper} : Tl 0 [x, y, z, u] [x, y, z, u] := .here

/-- The class: all of the state, but for the blocks that the region writes ahead of its tail. -/
theorem St.draw {id : Nat} {t : List Oper} (S0 : Sp) (hm : P.follows .mixedOrders = true) (ht : Tl n l t) (hB : headB l.toArray n = true) (h : GSt N E D S P r S0 l n (wpListIn (FR r) 0 P l.toArray Q t) n (Array.replicate l.length false) 0) :
    St N E D S ((Code.region id l.toArray true).wpIn (FR r) 0 P Q) := fun a w ha hw => by
  refine wpIn_region_any hm ?_
  have hn : n ≤ l.length := by simp only [headB, Bool.and_eq_true, decide_eq_true_eq] at hB; simpa using hB.1.1.2
  have hz : (Array.replicate l.length false).size = l.toArray.size := by simp
  have inv0 : HeadInv .any l.toArray n (Array.replicate l.length false) :=
    ⟨hz, fun j oj _ hl => (by rw [getD_replicate_false] at hl; cases hl), fun t _ ht => getD_in (by rw [hz]; exact ht) (getD_replicate_false _ _)⟩
  have hg := h hB hz
  rw [ht.spec] at hg
  have hT : (fun a w => Fr N E D a ∧ Wd S w) a { w with drawn := w.drawn + 1 } := ⟨ha, hw.drew⟩
  have := Good.wp hB n _ _ hz inv0 (by
    rw [show (List.range n).filter (fun j => !(Array.replicate l.length false).getD j false) = List.range n from List.filter_eq_self.2 fun j _ => by rw [getD_replicate_false]; rfl]
    simp) (by simpa using hg) a _ hT
  have he : n + (l.toArray.size - n) = l.toArray.size := by simp; omega
  rw [he] at this
  simpa using this

/-- .. all of it. -/
theorem St.drawA {id : Nat} {t : List Oper} (hm : P.follows .mixedOrders = true) (ht : Tl n l t) (hB : headB l.toArray n = true) (h : GSt N E D S P r S l n (wpListIn (FR r) 0 P l.toArray Q t) n (Array.replicate l.length false) 0) :
    St N E D S ((Code.region id l.toArray true).wpIn (FR r) 0 P Q) := St.draw S hm ht hB h

def readyB (ops : Array Oper) (n : Nat) (listed : Array Bool) (i : Nat) : Bool := decide (i < n) && (Region.ready .any ops listed).contains i && Region.free .any ops listed i

theorem GSt.first_gen {o : Oper} (hf1 : f1 = f + 1) (hi : nthO l k = some o) (hb : readyB l.toArray n listed k = true) (hsub : ∀ w, Wd S w → Wd S0 w) (hq : ∀ a, Fr N E D a → QAt P l.toArray (Wd S0) o v a) {E' : Env} (hput : ∀ a, Fr N E D a → Fr N E' D (a.put o.dst v))
    (h : GSt N E' D S P r S0 l n L f (listed.setIfInBounds k true) (k + 1)) : GSt N E D S P r S0 l n L f1 listed k := by
  subst hf1
  simp only [readyB, Bool.and_eq_true, decide_eq_true_eq] at hb
  intro hB hs
  refine Good.first (nthO_spec _ _ _ hi) hB hb.1.1 f listed _ hs (Region.free_spec (nthO_spec _ _ _ hi) hb.2) (by simpa using hb.1.2) (fun a w h => hq a h.1) (fun a w h => hsub w h.2) (fun a w w' h hk => ⟨h.1, h.2.kept hk⟩) ?_
  refine Good.anti f _ ?_ (h hB (by simp [hs]))
  rintro a w ⟨a0, rfl, h1, h2⟩
  exact ⟨hput a0 h1, h2⟩

theorem nthO_dst {j t : Nat} (h : (nthO l j).bind (·.dst) = some t) : (l.toArray[j]?).bind (·.dst) = some t := by
  cases hq : nthO l j with
  | none => rw [hq] at h; cases h
  | some o => rw [hq] at h; rw [nthO_spec _ _ _ hq]; exact h

theorem GSt.val (hf1 : f1 = f + 1) (hi : nthO l k = some ⟨some d, op, ty, pos, aft, none⟩) (hb : readyB l.toArray n listed k = true) (hsub : ∀ w, Wd S w → Wd S0 w) (hy : Y P N E D S0 ⟨some d, op, ty, pos, aft, none⟩ v) (hd : Nat.blt d N = true)
    (h : GSt N ((d, v) :: E) D S P r S0 l n L f (listed.setIfInBounds k true) (k + 1)) : GSt N E D S P r S0 l n L f1 listed k :=
  GSt.first_gen hf1 hi hb hsub (fun a ha => .inl ⟨by simp [Region.wanted], fun w hw => .inl (hy a w ha hw)⟩) (fun _ ha => ha.put v (by simpa using hd)) h
theorem GSt.valG {j t : Nat} {want : Bool} {u : Value} (hf1 : f1 = f + 1) (hi : nthO l k = some ⟨some d, op, ty, pos, aft, some (j, want)⟩) (hj : (nthO l j).bind (·.dst) = some t) (hu : look E t = some u) (hub : isB u want = true) (hb : readyB l.toArray n listed k = true) (hsub : ∀ w, Wd S w → Wd S0 w)
    (hy : Y P N E D S0 ⟨some d, op, ty, pos, aft, some (j, want)⟩ v) (hd : Nat.blt d N = true)
    (h : GSt N ((d, v) :: E) D S P r S0 l n L f (listed.setIfInBounds k true) (k + 1)) : GSt N E D S P r S0 l n L f1 listed k :=
  GSt.first_gen hf1 hi hb hsub (fun a ha => .inl ⟨by rw [wanted_of ha (nthO_dst hj) hu _ rfl, hub], fun w hw => .inl (hy a w ha hw)⟩) (fun _ ha => ha.put v (by simpa using hd)) h
theorem GSt.skipG {j t : Nat} {want : Bool} {u : Value} (hf1 : f1 = f + 1) (hi : nthO l k = some ⟨some d, op, ty, pos, aft, some (j, want)⟩) (hj : (nthO l j).bind (·.dst) = some t) (hu : look E t = some u) (hub : isB u want = false) (hb : readyB l.toArray n listed k = true) (hsub : ∀ w, Wd S w → Wd S0 w) (hd : Nat.blt d N = true)
    (h : GSt N ((d, undef) :: E) D S P r S0 l n L f (listed.setIfInBounds k true) (k + 1)) : GSt N E D S P r S0 l n L f1 listed k :=
  GSt.first_gen hf1 hi hb hsub (fun a ha => .inr ⟨by rw [wanted_of ha (nthO_dst hj) hu _ rfl, hub], rfl⟩) (fun _ ha => ha.put undef (by simpa using hd)) h
theorem GSt.call {fo : Operand} {kf : Nat} {fn : Func} {fs cs vs : List Value} {args : List Operand} {ats : Array TypeId} (hf1 : f1 = f + 1) (hi : nthO l k = some ⟨some d, .call { callee := .value fo, args := args.toArray, argTypes := ats }, ty, pos, aft, none⟩) (hb : readyB l.toArray n listed k = true) (hsub : ∀ w, Wd S w → Wd S0 w)
    (hfx : ev E fo = some (.func (.func kf) fs.toArray cs.toArray)) (hargs : Args E args vs) [FN P kf fn] (hc : ∀ w, Wd S0 w → Pure_ P kf (fs ++ vs ++ cs) v w) (hd : Nat.blt d N = true)
    (h : GSt N ((d, v) :: E) D S P r S0 l n L f (listed.setIfInBounds k true) (k + 1)) : GSt N E D S P r S0 l n L f1 listed k :=
  GSt.first_gen hf1 hi hb hsub (fun a ha => .inl ⟨by simp [Region.wanted], fun w hw => .inr ⟨kf, _, run_call ha hfx hargs, callsIn_FR (hc w hw)⟩⟩) (fun _ ha => ha.put v (by simpa using hd)) h
theorem GSt.callG {j t : Nat} {want : Bool} {u : Value} {fo : Operand} {kf : Nat} {fn : Func} {fs cs vs : List Value} {args : List Operand} {ats : Array TypeId} (hf1 : f1 = f + 1) (hi : nthO l k = some ⟨some d, .call { callee := .value fo, args := args.toArray, argTypes := ats }, ty, pos, aft, some (j, want)⟩) (hj : (nthO l j).bind (·.dst) = some t) (hu : look E t = some u) (hub : isB u want = true) (hb : readyB l.toArray n listed k = true) (hsub : ∀ w, Wd S w → Wd S0 w)
    (hfx : ev E fo = some (.func (.func kf) fs.toArray cs.toArray)) (hargs : Args E args vs) [FN P kf fn] (hc : ∀ w, Wd S0 w → Pure_ P kf (fs ++ vs ++ cs) v w) (hd : Nat.blt d N = true)
    (h : GSt N ((d, v) :: E) D S P r S0 l n L f (listed.setIfInBounds k true) (k + 1)) : GSt N E D S P r S0 l n L f1 listed k :=
  GSt.first_gen hf1 hi hb hsub (fun a ha => .inl ⟨by rw [wanted_of ha (nthO_dst hj) hu _ rfl, hub], fun w hw => .inr ⟨kf, _, run_call ha hfx hargs, callsIn_FR (hc w hw)⟩⟩) (fun _ ha => ha.put v (by simpa using hd)) h

/-- Not now. -/
theorem GSt.later (_hk : Nat.blt k l.length = true) (h : GSt N E D S P r S0 l n L f listed (k + 1)) : GSt N E D S P r S0 l n L f listed k := h
theorem GSt.again (h : GSt N E D S P r S0 l n L f listed 0) : GSt N E D S P r S0 l n L f listed k := h

/-- The head is over. -/
theorem GSt.done (hf1 : f1 = 0) (hr : ((List.range n).all (fun i => listed.getD i false)) = true) (h : St N E D S L) : GSt N E D S P r S0 l n L f1 listed k := by
  subst hf1
  exact fun _ _ => ⟨hr, fun a w ht => h a w ht.1 ht.2⟩

theorem St.ex {ι : Type} {Ex : ι → Env} {Sx : ι → Sp} (x : ι) : St N (Ex x) D (Sx x) (fun a w => ∃ x, Fr N (Ex x) D a ∧ Wd (Sx x) w) := fun _ _ ha hw => ⟨x, ha, hw⟩

def headReady (ops : Array Oper) (n : Nat) (listed : Array Bool) : List Nat := (Region.ready .any ops listed).filter fun i => decide (i < n)
theorem headReady_mem {ops : Array Oper} {listed : Array Bool} {j : Nat} (h : j ∈ Region.ready .any ops listed) (hn : j < n) : j ∈ headReady ops n listed := List.mem_filter.2 ⟨h, by simpa using hn⟩

/-- One operation alone may come up. -/
theorem GSt.one {i : Nat} {o : Oper} {ι : Type} {Ex : ι → Env} {Sx : ι → Sp} (hf1 : f1 = f + 1) (hr : headReady l.toArray n listed = [i]) (hi : nthO l i = some o) (hg : o.guard = none)
    (h1 : St N E D S (Op1 P r o (fun a w => ∃ x, Fr N (Ex x) D a ∧ Wd (Sx x) w))) (hC : ∀ x w, Wd (Sx x) w → Wd S0 w)
    (h : ∀ x, GSt N (Ex x) D (Sx x) P r S0 l n L f (listed.setIfInBounds i true) 0) : GSt N E D S P r S0 l n L f1 listed k := by
  subst hf1
  intro hB hs j hj hjn
  have hj := headReady_mem hj hjn
  rw [hr] at hj
  have : j = i := by simpa using hj
  subst this
  refine ⟨ι, fun x a w => Fr N (Ex x) D a ∧ Wd (Sx x) w, fun x a w w' h hk => ⟨h.1, h.2.kept hk⟩, fun x a w h => hC x w h.2, fun a w ht => ?_, fun x => h x hB (by simp [hs])⟩
  unfold opN
  rw [nthO_spec _ _ _ hi]; simp only
  rw [if_pos (by simp [Region.wanted, hg])]
  exact h1 a w ht.1 ht.2
/-- Two may. -/
theorem GSt.two {i i2 : Nat} {o o2 : Oper} {ι ι2 : Type} {Ex : ι → Env} {Sx : ι → Sp} {Ex2 : ι2 → Env} {Sx2 : ι2 → Sp} (hf1 : f1 = f + 1) (hr : headReady l.toArray n listed = [i, i2]) (hi : nthO l i = some o) (hi2 : nthO l i2 = some o2) (hg : o.guard = none) (hg2 : o2.guard = none)
    (h1 : St N E D S (Op1 P r o (fun a w => ∃ x, Fr N (Ex x) D a ∧ Wd (Sx x) w))) (hC : ∀ x w, Wd (Sx x) w → Wd S0 w)
    (h12 : St N E D S (Op1 P r o2 (fun a w => ∃ x, Fr N (Ex2 x) D a ∧ Wd (Sx2 x) w))) (hC2 : ∀ x w, Wd (Sx2 x) w → Wd S0 w)
    (h : ∀ x, GSt N (Ex x) D (Sx x) P r S0 l n L f (listed.setIfInBounds i true) 0) (h2 : ∀ x, GSt N (Ex2 x) D (Sx2 x) P r S0 l n L f (listed.setIfInBounds i2 true) 0) : GSt N E D S P r S0 l n L f1 listed k := by
  subst hf1
  intro hB hs j hj hjn
  have hj := headReady_mem hj hjn
  rw [hr] at hj
  have hj' : j = i ∨ j = i2 := by simpa using hj
  rcases hj' with rfl | rfl
  · refine ⟨ι, fun x a w => Fr N (Ex x) D a ∧ Wd (Sx x) w, fun x a w w' h hk => ⟨h.1, h.2.kept hk⟩, fun x a w h => hC x w h.2, fun a w ht => ?_, fun x => h x hB (by simp [hs])⟩
    unfold opN
    rw [nthO_spec _ _ _ hi]; simp only
    rw [if_pos (by simp [Region.wanted, hg])]
    exact h1 a w ht.1 ht.2
  · refine ⟨ι2, fun x a w => Fr N (Ex2 x) D a ∧ Wd (Sx2 x) w, fun x a w w' h hk => ⟨h.1, h.2.kept hk⟩, fun x a w h => hC2 x w h.2, fun a w ht => ?_, fun x => h2 x hB (by simp [hs])⟩
    unfold opN
    rw [nthO_spec _ _ _ hi2]; simp only
    rw [if_pos (by simp [Region.wanted, hg2])]
    exact h12 a w ht.1 ht.2
end
end Go.Proofs.Ytikaonfnaobciaa
