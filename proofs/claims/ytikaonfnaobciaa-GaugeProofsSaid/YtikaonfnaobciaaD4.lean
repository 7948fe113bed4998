/- The reference's best is the best chain: plain law. -/
import Derived.Test.YtikaonfnaobciaaD3
import Derived.Test.YtikaonfnaobciaaC16
namespace Go.Proofs.Ytikaonfnaobciaa
open Go.RowKit
set_option linter.unusedVariables false
set_option linter.unusedSimpArgs false

section
variable {l : List Ga} {b : Int} {val : Ga → Int} {btr : Int → Int → Bool} {φ : Int → Int}

theorem bestS_late (hl : ∀ g ∈ l, g.f < g.t) {t : Int} (h : b < t) : bestS l b val btr t = none := bestF_late hl h _

/-- What a gauge offers for a step. -/
def cvF (l : List Ga) (b : Int) (val : Ga → Int) (btr : Int → Int → Bool) (a : Int) (g : Ga) : Option Int := if g.f = a then (bestS l b val btr g.t).map (val g + ·) else none
theorem stepB_cv (hl : ∀ g ∈ l, g.f < g.t) (a : Int) (acc : Option Int) (g : Ga) : stepB b val btr (bestS l b val btr) a acc g = match cvF l b val btr a g with | none => acc | some x => pickB btr acc x := by
  unfold stepB cvF
  by_cases h1 : g.f = a
  · by_cases h2 : g.t ≤ b
    · rw [if_pos ⟨h1, h2⟩, if_pos h1]; cases bestS l b val btr g.t <;> rfl
    · rw [if_neg (by omega), if_pos h1, bestS_late hl (by omega)]; rfl
  · rw [if_neg (by omega), if_neg h1]
theorem hit_cv (hl : ∀ g ∈ l, g.f < g.t) (a m : Int) (g : Ga) : hitB l b val btr a m g = true ↔ cvF l b val btr a g = some m := by
  rw [hitB_iff]
  unfold cvF
  by_cases h1 : g.f = a
  · rw [if_pos h1, Option.map_eq_some_iff]
    constructor
    · rintro ⟨_, _, s, h3, h4⟩; exact ⟨s, h3, h4⟩
    · rintro ⟨s, h3, h4⟩
      refine ⟨h1, ?_, s, h3, h4⟩
      rcases Int.lt_or_le b g.t with h | h
      · rw [bestS_late hl h] at h3; cases h3
      · exact h
  · rw [if_neg h1]
    constructor
    · rintro ⟨h, _⟩; exact absurd h h1
    · intro h; cases h

theorem befB_gt {x y : Int} {xs ys : List Int} (h : y < x) : befB (x :: xs) (y :: ys) = false := by
  unfold befB; rw [if_neg (by omega)]; simp; omega

/-- What is known of the sums and chains of the gauges that begin at a step. -/
def Fin (l : List Ga) (b : Int) (val : Ga → Int) (btr : Int → Int → Bool) (φ : Int → Int) (sm : List Int) (cs : Chs) (j : Nat) : Prop :=
  match bestS l b val btr (l.getD j ga0).t with
  | none => cs.getD j none = none
  | some s => sm.getD j 0 = φ (val (l.getD j ga0) + s) ∧ cs.getD j none = some ((j : Int) :: chainS l b val btr (l.getD j ga0).t)

theorem getD_of {k : Nat} (h : k < l.length) : l[k]? = some (l.getD k ga0) := by simp [List.getD_eq_getElem?_getD, h]

theorem frF_law (hl : ∀ g ∈ l, g.f < g.t) (hb : ∀ x y, btr x y = true ↔ φ y < φ x) {sm : List Int} {cs : Chs} {a : Int} (hF : ∀ j, j < l.length → (l.getD j ga0).f = a → Fin l b val btr φ sm cs j) : ∀ k, k ≤ l.length →
    match frF l a sm cs k with
    | none => (l.take k).foldl (stepB b val btr (bestS l b val btr) a) none = none
    | some m => m < k ∧ ∃ x, cvF l b val btr a (l.getD m ga0) = some x ∧ (l.take k).foldl (stepB b val btr (bestS l b val btr) a) none = some x ∧ (∀ j, j < k → ∀ y, cvF l b val btr a (l.getD j ga0) = some y → φ y ≤ φ x) ∧ (∀ j, j < m → ∀ y, cvF l b val btr a (l.getD j ga0) = some y → φ y < φ x)
  | 0, _ => by simp [frF]
  | k + 1, hk => by
    have ih := frF_law hl hb hF k (by omega)
    have hst := take_fold (f := stepB b val btr (bestS l b val btr) a) (b := none) (getD_of (l := l) (k := k) (by omega))
    rw [stepB_cv hl] at hst
    have hFk := hF k (by omega)
    cases hc : cvF l b val btr a (l.getD k ga0) with
    | none =>
      have hfr : frF l a sm cs (k + 1) = frF l a sm cs k := by
        rw [frF]
        by_cases h1 : (l.getD k ga0).f = a
        · have hw : bestS l b val btr (l.getD k ga0).t = none := by
            unfold cvF at hc; rw [if_pos h1] at hc; simpa using hc
          have := hFk h1
          unfold Fin at this; rw [hw] at this
          rw [if_neg (fun h => h.2 this)]
        · rw [if_neg (fun h => h1 h.1)]
      rw [hc] at hst
      rw [hfr, hst]
      cases hf : frF l a sm cs k with
      | none => rw [hf] at ih; exact ih
      | some m =>
        rw [hf] at ih
        obtain ⟨h1, x, h2, h3, h4, h5⟩ := ih
        refine ⟨by omega, x, h2, h3, fun j hj y hy => ?_, h5⟩
        rcases Nat.lt_or_eq_of_le (Nat.le_of_lt_succ hj) with e | e
        · exact h4 j e y hy
        · subst e; rw [hc] at hy; cases hy
    | some v =>
      rw [hc] at hst
      simp only at hst
      obtain ⟨h1, s, hs, hv⟩ : (l.getD k ga0).f = a ∧ ∃ s, bestS l b val btr (l.getD k ga0).t = some s ∧ val (l.getD k ga0) + s = v := by
        unfold cvF at hc
        split at hc
        · rename_i h1
          obtain ⟨s, h2, h3⟩ := Option.map_eq_some_iff.1 hc
          exact ⟨h1, s, h2, h3⟩
        · cases hc
      have hk1 := hFk h1
      unfold Fin at hk1
      rw [hs] at hk1
      obtain ⟨hk1, hk2⟩ := hk1
      rw [hv] at hk1
      have hfr : frF l a sm cs (k + 1) = match frF l a sm cs k with
          | none => some k
          | some m => if betF sm cs k m = true then some k else some m := by rw [frF, if_pos ⟨h1, by rw [hk2]; simp⟩]; cases frF l a sm cs k <;> rfl
      rw [hfr]
      cases hf : frF l a sm cs k with
      | none =>
        rw [hf] at ih
        simp only at ih ⊢
        rw [ih] at hst
        have hnone : ∀ j, j < k → ∀ y, cvF l b val btr a (l.getD j ga0) = some y → False := by
          intro j hj y hy
          have hall : ∀ n, n ≤ k → (l.take n).foldl (stepB b val btr (bestS l b val btr) a) none = none → ∀ j, j < n → cvF l b val btr a (l.getD j ga0) = none := by
            intro n
            induction n with
            | zero => intro _ _ j hj; omega
            | succ n ihn =>
              intro hn h0 j hj
              rw [take_fold (getD_of (l := l) (k := n) (by omega)), stepB_cv hl] at h0
              cases hq : cvF l b val btr a (l.getD n ga0) with
              | some z =>
                rw [hq] at h0
                have := pickB_isSome (btr := btr) ((l.take n).foldl (stepB b val btr (bestS l b val btr) a) none) z
                simp only at h0
                rw [h0] at this; cases this
              | none =>
                rw [hq] at h0
                rcases Nat.lt_or_eq_of_le (Nat.le_of_lt_succ hj) with e | e
                · exact ihn (by omega) h0 j e
                · subst e; exact hq
          rw [hall k (Nat.le_refl _) ih j hj] at hy; cases hy
        refine ⟨by omega, v, hc, hst, fun j hj y hy => ?_, fun j hj y hy => (hnone j hj y hy).elim⟩
        rcases Nat.lt_or_eq_of_le (Nat.le_of_lt_succ hj) with e | e
        · exact (hnone j e y hy).elim
        · subst e; rw [hc] at hy; injection hy with hy; subst hy; exact Int.le_refl _
      | some m =>
        rw [hf] at ih
        obtain ⟨hm, x, h2, h3, h4, h5⟩ := ih
        rw [h3] at hst
        obtain ⟨g1, s', hs', hv'⟩ : (l.getD m ga0).f = a ∧ ∃ s, bestS l b val btr (l.getD m ga0).t = some s ∧ val (l.getD m ga0) + s = x := by
          unfold cvF at h2
          split at h2
          · rename_i h1
            obtain ⟨s, h2, h3⟩ := Option.map_eq_some_iff.1 h2
            exact ⟨h1, s, h2, h3⟩
          · cases h2
        have hm1 := hF m (by omega) g1
        unfold Fin at hm1
        rw [hs'] at hm1
        obtain ⟨hm1, hm2⟩ := hm1
        rw [hv'] at hm1
        have hbet : betF sm cs k m = decide (φ x < φ v) := by
          unfold betF
          rw [hk1, hm1]
          simp only [chL, hk2, hm2, Option.getD_some]
          rw [befB_gt (by omega)]
          simp
        simp only [hbet]
        by_cases hlt : φ x < φ v
        · rw [if_pos (by simpa using hlt)]
          have hp : pickB btr (some x) v = some v := by
            unfold pickB; simp only; rw [if_pos ((hb v x).2 hlt)]
          rw [hp] at hst
          refine ⟨by omega, v, hc, hst, fun j hj y hy => ?_, fun j hj y hy => ?_⟩
          · rcases Nat.lt_or_eq_of_le (Nat.le_of_lt_succ hj) with e | e
            · have := h4 j e y hy; omega
            · subst e; rw [hc] at hy; injection hy with hy; subst hy; exact Int.le_refl _
          · have := h4 j hj y hy; omega
        · rw [if_neg (by simpa using hlt)]
          have hp : pickB btr (some x) v = some x := by
            unfold pickB; simp only; rw [if_neg (fun h => hlt ((hb v x).1 h))]
          rw [hp] at hst
          refine ⟨by omega, x, h2, hst, fun j hj y hy => ?_, h5⟩
          rcases Nat.lt_or_eq_of_le (Nat.le_of_lt_succ hj) with e | e
          · exact h4 j e y hy
          · subst e; rw [hc] at hy; injection hy with hy; subst hy; omega

theorem firstS_law (hl : ∀ g ∈ l, g.f < g.t) (hb : ∀ x y, btr x y = true ↔ φ y < φ x) {sm : List Int} {cs : Chs} {a : Int} (ha : a ≠ b) (hF : ∀ j, j < l.length → (l.getD j ga0).f = a → Fin l b val btr φ sm cs j) :
    firstS l a sm cs = (bestS l b val btr a).map fun m => (φ m, chainS l b val btr a) := by
  have h := frF_law hl hb hF l.length (Nat.le_refl _)
  rw [List.take_length, ← bestS_eq hl ha] at h
  unfold firstS
  cases hf : frF l a sm cs l.length with
  | none => rw [hf] at h; simp only at h; rw [h]; rfl
  | some m =>
    rw [hf] at h
    obtain ⟨hm, x, h2, h3, h4, h5⟩ := h
    obtain ⟨g1, s', hs', hv'⟩ : (l.getD m ga0).f = a ∧ ∃ s, bestS l b val btr (l.getD m ga0).t = some s ∧ val (l.getD m ga0) + s = x := by
      unfold cvF at h2
      split at h2
      · rename_i h1
        obtain ⟨s, h2, h3⟩ := Option.map_eq_some_iff.1 h2
        exact ⟨h1, s, h2, h3⟩
      · cases h2
    have hm1 := hF m hm g1
    unfold Fin at hm1
    rw [hs'] at hm1
    obtain ⟨hm1, hm2⟩ := hm1
    rw [hv'] at hm1
    have hh : hitB l b val btr a x (l.getD m ga0) = true := (hit_cv hl a x _).2 h2
    have htb : (l.getD m ga0).t ≤ b := (hitB_iff.1 hh).2.1
    have hft : (l.getD m ga0).f < (l.getD m ga0).t := hl _ (List.mem_of_getElem? (getD_of hm))
    rw [h3]
    simp only [Option.map_some, hm1, chL, hm2, Option.getD_some]
    rw [chainS_eq hl (step := a) (by omega) h3 (i := m) (g := l.getD m ga0) ?_ (getD_of hm) hh]
    rw [List.findIdx?_eq_some_iff_getElem]
    have e : ∀ j (hj : j < l.length), l[j] = l.getD j ga0 := fun j hj => by simp [List.getD_eq_getElem?_getD, hj]
    refine ⟨hm, by rw [e]; exact hh, fun j hj => ?_⟩
    rw [e]
    intro hx
    have := h5 j hj x ((hit_cv hl a x _).1 hx)
    omega

theorem pkF_max {dn : List Bool} : ∀ {i m : Nat}, pkF l dn i = some m → ∀ j, j < i → dn.getD j true = false → (l.getD j ga0).f ≤ (l.getD m ga0).f
  | 0, _, h => by cases h
  | i + 1, m, h => by
    intro j hj hd
    simp only [pkF] at h
    split at h
    · rename_i hc
      simp at h; subst h
      by_cases e : j = i
      · subst e; exact Int.le_refl _
      · obtain ⟨m', hm'⟩ := pkF_some (l := l) (dn := dn) (i := i) (j := j) (by omega) hd
        have h1 := pkF_max hm' j (by omega) hd
        have h2 := hc.2 m' hm'
        omega
    · rename_i hc
      by_cases e : j = i
      · subst e
        rcases Int.lt_or_le (l.getD m ga0).f (l.getD j ga0).f with h1 | h1
        · exact absurd ⟨hd, fun m' hm' => by rw [hm'] at h; injection h with h; subst h; exact h1⟩ hc
        · exact h1
      · exact pkF_max h j (by omega) hd

structure Si (l : List Ga) (b : Int) (val : Ga → Int) (btr : Int → Int → Bool) (φ : Int → Int) (s : Bs) : Prop where
  cl : ∀ i j, i < l.length → j < l.length → s.dn.getD i true = true → (l.getD i ga0).f < (l.getD j ga0).f → s.dn.getD j true = true
  no : ∀ j, j < l.length → s.dn.getD j true = false → s.cs.getD j none = none
  ok : ∀ j, j < l.length → s.dn.getD j true = true → Fin l b val btr φ s.sm s.cs j

theorem iterR_si (hok : ∀ g ∈ l, g.ok) (hl : ∀ g ∈ l, g.f < g.t) (hφ : ∀ x y, φ (x + y) = φ x + φ y) (hb : ∀ x y, btr x y = true ↔ φ y < φ x) {high : Bool} (hs : ∀ g : Ga, sideS g high = φ (val g)) : ∀ k, k ≤ l.length → Si l b val btr φ (iterR l b high k)
  | 0, _ => by
    have h0 : ∀ j, j < l.length → ¬ (iterR l b high 0).dn.getD j true = true := fun j hj => by
      simp [iterR, List.getD_eq_getElem?_getD, List.getElem?_replicate, hj]
    refine ⟨fun i j hi hj h _ => absurd h (h0 i hi), fun j hj _ => ?_, fun j hj h => absurd h (h0 j hj)⟩
    simp [iterR, List.getD_eq_getElem?_getD, List.getElem?_replicate]; split <;> simp
  | k + 1, hk => by
    have ih := iterR_si hok hl hφ hb hs k (by omega)
    have io := iterR_ok hok b high k (by omega)
    obtain ⟨j0, hj1, hj2⟩ := count_some (dn := (iterR l b high k).dn) (by rw [io.cnt, io.l3]; omega)
    obtain ⟨q, hq⟩ := pkF_some (l := l) (i := l.length) (by rw [io.l3] at hj1; exact hj1) hj2
    obtain ⟨hq1, hq2⟩ := pkF_spec hq
    have hmax := pkF_max hq
    have hq3 : q < (iterR l b high k).dn.length := by rw [io.l3]; exact hq1
    have hqs : q < (iterR l b high k).sm.length := by rw [io.l1]; exact hq1
    have hqc : q < (iterR l b high k).cs.length := by rw [io.l2]; exact hq1
    have hft : (l.getD q ga0).f < (l.getD q ga0).t := hl _ (List.mem_of_getElem? (getD_of hq1))
    have hcl : ∀ i j, i < l.length → j < l.length → ((iterR l b high k).dn.set q true).getD i true = true → (l.getD i ga0).f < (l.getD j ga0).f → ((iterR l b high k).dn.set q true).getD j true = true := by
      intro i j hi hj h1 h2
      rw [getD_set_l hq3] at h1 ⊢
      by_cases e : j = q
      · rw [if_pos e]
      · rw [if_neg e]
        by_cases e2 : i = q
        · subst e2
          cases hd : (iterR l b high k).dn.getD j true with
          | true => rfl
          | false => have := hmax j hj hd; omega
        · rw [if_neg e2] at h1
          exact ih.cl i j hi hj h1 h2
    have hset : ∀ v xs, (∃ s, bestS l b val btr (l.getD q ga0).t = some s ∧ v = φ (val (l.getD q ga0) + s) ∧ xs = (q : Int) :: chainS l b val btr (l.getD q ga0).t) → Si l b val btr φ ⟨(iterR l b high k).sm.set q v, (iterR l b high k).cs.set q (some xs), (iterR l b high k).dn.set q true⟩ := by
      rintro v xs ⟨s, h1, h2, h3⟩
      refine ⟨hcl, fun j hj hd => ?_, fun j hj hd => ?_⟩
      · dsimp only at hd ⊢
        rw [getD_set_l hq3] at hd
        rw [getD_set_l hqc]
        split at hd
        · cases hd
        · rename_i e; rw [if_neg e]; exact ih.no j hj hd
      · dsimp only at hd ⊢
        rw [getD_set_l hq3] at hd
        unfold Fin
        rw [getD_set_l hqc, getD_set_l hqs]
        by_cases e : j = q
        · subst e
          rw [h1]
          simp only [if_pos]
          exact ⟨h2, by rw [h3]⟩
        · rw [if_neg e] at hd
          simp only [if_neg e]
          exact ih.ok j hj hd
    simp only [iterR, stepR, hq]
    by_cases e1 : (l.getD q ga0).t = b
    · rw [if_pos e1]
      refine hset _ _ ⟨0, ?_, ?_, ?_⟩
      · rw [e1]; exact bestS_to
      · rw [hs, Int.add_zero]
      · rw [e1, chainS_to]
    · rw [if_neg e1]
      have hfs := firstS_law hl hb (sm := (iterR l b high k).sm) (cs := (iterR l b high k).cs) e1 (fun j hj hf => ih.ok j hj (by
        cases hd : (iterR l b high k).dn.getD j true with
        | true => rfl
        | false => have := hmax j hj hd; omega))
      rw [hfs]
      cases hbs : bestS l b val btr (l.getD q ga0).t with
      | some s =>
        simp only [Option.map_some]
        exact hset _ _ ⟨s, hbs, by rw [hs, hφ], rfl⟩
      | none =>
        simp only [Option.map_none]
        refine ⟨hcl, fun j hj hd => ?_, fun j hj hd => ?_⟩
        · dsimp only at hd ⊢
          rw [getD_set_l hq3] at hd
          split at hd
          · cases hd
          · exact ih.no j hj hd
        · dsimp only at hd ⊢
          rw [getD_set_l hq3] at hd
          by_cases e : j = q
          · subst e
            unfold Fin
            rw [hbs]
            exact ih.no j hj hq2
          · rw [if_neg e] at hd
            exact ih.ok j hj hd

theorem bestR_law (hok : ∀ g ∈ l, g.ok) (hl : ∀ g ∈ l, g.f < g.t) (hφ : ∀ x y, φ (x + y) = φ x + φ y) (hb : ∀ x y, btr x y = true ↔ φ y < φ x) {high : Bool} (hs : ∀ g : Ga, sideS g high = φ (val g)) {a : Int} (ha : a ≠ b) :
    bestR l a b high = (bestS l b val btr a).map fun m => (φ m, chainS l b val btr a) := by
  have h1 := iterR_si (b := b) hok hl hφ hb hs l.length (Nat.le_refl _)
  have h2 := iterR_ok hok b high l.length (Nat.le_refl _)
  refine firstS_law hl hb ha fun j hj _ => h1.ok j hj ?_
  cases hd : (iterR l b high l.length).dn.getD j true with
  | true => rfl
  | false =>
    exfalso
    have h3 : j < (iterR l b high l.length).dn.length := by rw [h2.l3]; exact hj
    have h4 : (iterR l b high l.length).dn.count true = (iterR l b high l.length).dn.length := by rw [h2.cnt, h2.l3]
    have h5 := List.count_eq_length.1 h4 _ (List.getElem_mem h3)
    rw [List.getD_eq_getElem?_getD, List.getElem?_eq_getElem h3, Option.getD_some, ← h5] at hd
    cases hd
end
theorem okL_ft {l : List Ga} (h : okL l) : ∀ g ∈ l, g.f < g.t := fun g hg => by
  have := h.2.2 g hg; obtain ⟨h1, h2, h3, h4, h5⟩ := this; omega
theorem bestR_le {l : List Ga} {a b : Int} (h : okL l) (ha : a ≠ b) : bestR l a b false = (bestS l b (fun g => g.lo) (fun x y => decide (y < x)) a).map fun m => (m, chainS l b (fun g => g.lo) (fun x y => decide (y < x)) a) :=
  bestR_law (φ := fun x => x) h.2.2 (okL_ft h) (fun _ _ => rfl) (fun x y => by simp) (fun g => by simp [sideS]) ha
theorem bestR_mo {l : List Ga} {a b : Int} (h : okL l) (ha : a ≠ b) : bestR l a b true = (bestS l b (fun g => g.hi) (fun x y => decide (x < y)) a).map fun m => (-m, chainS l b (fun g => g.hi) (fun x y => decide (x < y)) a) :=
  bestR_law (φ := fun x => -x) h.2.2 (okL_ft h) (fun x y => by omega) (fun x y => by simp) (fun g => by simp [sideS]) ha
end Go.Proofs.Ytikaonfnaobciaa
