import Derived.Test.YtikaonfnaobciaaC15
namespace Go.Proofs.Ytikaonfnaobciaa
open Go.RowKit
set_option linter.unusedVariables false

/-! A further gauge: plain law. -/
section
variable {to : Int} {val : Ga → Int} {btr : Int → Int → Bool} {φ : Int → Int}
def LeO (φ : Int → Int) (o o' : Option Int) : Prop := ∀ s, o = some s → ∃ s', o' = some s' ∧ φ s ≤ φ s'
theorem LeO.refl (o : Option Int) : LeO φ o o := fun s h => ⟨s, h, Int.le_refl _⟩
theorem LeO.trans {a b c : Option Int} (h : LeO φ a b) (k : LeO φ b c) : LeO φ a c := fun s hs => by
  obtain ⟨s', h1, h2⟩ := h s hs
  obtain ⟨s'', h3, h4⟩ := k s' h1
  exact ⟨s'', h3, Int.le_trans h2 h4⟩
theorem LeO.none (o : Option Int) : LeO φ none o := fun s h => by cases h

theorem pickB_ge (hb : ∀ x y, btr x y = true ↔ φ y < φ x) (acc : Option Int) (x : Int) : LeO φ acc (pickB btr acc x) ∧ LeO φ (some x) (pickB btr acc x) := by
  cases acc with
  | none => exact ⟨LeO.none _, LeO.refl _⟩
  | some y =>
    unfold pickB
    simp only
    by_cases h : btr x y = true
    · rw [if_pos h]
      have := (hb x y).1 h
      exact ⟨fun s hs => ⟨x, rfl, by injection hs with hs; subst hs; omega⟩, LeO.refl _⟩
    · rw [if_neg h]
      have : ¬ φ y < φ x := fun h' => h ((hb x y).2 h')
      exact ⟨LeO.refl _, fun s hs => ⟨y, rfl, by injection hs with hs; subst hs; omega⟩⟩
theorem pickB_le (hb : ∀ x y, btr x y = true ↔ φ y < φ x) {acc o : Option Int} {x : Int} (h1 : LeO φ acc o) (h2 : LeO φ (some x) o) : LeO φ (pickB btr acc x) o := by
  cases acc with
  | none => exact h2
  | some y =>
    unfold pickB
    simp only
    split
    · exact h2
    · exact h1
theorem stepB_ge (hb : ∀ x y, btr x y = true ↔ φ y < φ x) (rec : Int → Option Int) (step : Int) (acc : Option Int) (g : Ga) : LeO φ acc (stepB to val btr rec step acc g) := by
  unfold stepB
  split
  · split
    · exact LeO.refl _
    · exact (pickB_ge hb acc _).1
  · exact LeO.refl _
theorem stepB_le (hφ : ∀ x y, φ (x + y) = φ x + φ y) (hb : ∀ x y, btr x y = true ↔ φ y < φ x) {rec rec' : Int → Option Int} (hr : ∀ t, LeO φ (rec t) (rec' t)) (step : Int) {acc acc' : Option Int} (ha : LeO φ acc acc') (g : Ga) : LeO φ (stepB to val btr rec step acc g) (stepB to val btr rec' step acc' g) := by
  unfold stepB
  split
  · cases hq : rec g.t with
    | none =>
      simp only
      split
      · exact ha
      · exact ha.trans (pickB_ge hb acc' _).1
    | some s =>
      obtain ⟨s', h1, h2⟩ := hr g.t s hq
      rw [h1]
      simp only
      refine pickB_le hb (ha.trans (pickB_ge hb acc' _).1) (LeO.trans (fun x hx => ⟨val g + s', rfl, ?_⟩) (pickB_ge hb acc' (val g + s')).2)
      injection hx with hx
      subst hx
      rw [hφ, hφ]
      omega
  · exact ha
theorem fold_le (hφ : ∀ x y, φ (x + y) = φ x + φ y) (hb : ∀ x y, btr x y = true ↔ φ y < φ x) {rec rec' : Int → Option Int} (hr : ∀ t, LeO φ (rec t) (rec' t)) (step : Int) : ∀ (l : List Ga) {acc acc' : Option Int}, LeO φ acc acc' → LeO φ (l.foldl (stepB to val btr rec step) acc) (l.foldl (stepB to val btr rec' step) acc')
  | [], _, _, h => h
  | g :: l, _, _, h => fold_le hφ hb hr step l (stepB_le hφ hb hr step h g)
theorem bestF_more (hφ : ∀ x y, φ (x + y) = φ x + φ y) (hb : ∀ x y, btr x y = true ↔ φ y < φ x) (l : List Ga) (g : Ga) : ∀ (n : Nat) (step : Int), LeO φ (bestF l to val btr n step) (bestF (l ++ [g]) to val btr n step)
  | 0, step => LeO.refl _
  | n + 1, step => by
    simp only [bestF]
    split
    · exact LeO.refl _
    · rw [List.foldl_append]
      exact (fold_le hφ hb (bestF_more hφ hb l g n) step l (LeO.refl _)).trans (stepB_ge hb _ step _ g)

theorem pickB_isSome (acc : Option Int) (x : Int) : (pickB btr acc x).isSome = true := by
  cases acc with
  | none => rfl
  | some y => unfold pickB; simp only; split <;> rfl
theorem fold_isSome {val' : Ga → Int} {btr' : Int → Int → Bool} {rec rec' : Int → Option Int} (hr : ∀ t, (rec t).isSome = (rec' t).isSome) (step : Int) : ∀ (l : List Ga) {acc acc' : Option Int}, acc.isSome = acc'.isSome → (l.foldl (stepB to val btr rec step) acc).isSome = (l.foldl (stepB to val' btr' rec' step) acc').isSome
  | [], _, _, h => h
  | g :: l, acc, acc', h => by
    simp only [List.foldl_cons]
    refine fold_isSome hr step l ?_
    unfold stepB
    split
    · have := hr g.t
      cases h1 : rec g.t <;> cases h2 : rec' g.t <;> simp only [h1, h2] at this ⊢
      · exact h
      · cases this
      · cases this
      · rw [pickB_isSome, pickB_isSome]
    · exact h
theorem bestF_isSome {val' : Ga → Int} {btr' : Int → Int → Bool} (l : List Ga) : ∀ (n : Nat) (step : Int), (bestF l to val btr n step).isSome = (bestF l to val' btr' n step).isSome
  | 0, step => rfl
  | n + 1, step => by
    simp only [bestF]
    split
    · rfl
    · exact fold_isSome (bestF_isSome l n) step l rfl
end

theorem le_mo_err (l : List Ga) (a b : Int) : (leS l a b).2.2 = (moS l a b).2.2 := by
  unfold leS moS extS
  split
  · rfl
  · have := bestF_isSome (to := b) (val := fun g => g.lo) (btr := fun x y => decide (y < x)) (val' := fun g => g.hi) (btr' := fun x y => decide (x < y)) l (b - a).toNat a
    unfold bestS
    cases h1 : bestF l b (fun g => g.lo) (fun x y => decide (y < x)) (b - a).toNat a <;> cases h2 : bestF l b (fun g => g.hi) (fun x y => decide (x < y)) (b - a).toNat a <;> simp [h1, h2] at this ⊢
theorem more_ext {φ : Int → Int} {val : Ga → Int} {btr : Int → Int → Bool} (hφ : ∀ x y, φ (x + y) = φ x + φ y) (hb : ∀ x y, btr x y = true ↔ φ y < φ x) {l : List Ga} {g : Ga} {a b : Int} (h1 : okL l) (h2 : okL (l ++ [g])) (he : (extS l a b val btr).2.2 = 0) :
    (extS (l ++ [g]) a b val btr).2.2 = 0 ∧ φ (extS l a b val btr).1 ≤ φ (extS (l ++ [g]) a b val btr).1 := by
  have hs : strE (l ++ [g]) a b = strE l a b := by unfold strE; rw [if_pos h1, if_pos h2]
  unfold extS at he ⊢
  rw [hs]
  by_cases h0 : strE l a b = 0
  · rw [if_neg (by omega)] at he ⊢
    rw [if_neg (by omega)]
    have hm := bestF_more (to := b) (val := val) hφ hb l g (b - a).toNat a
    unfold bestS at he ⊢
    cases hq : bestF l b val btr (b - a).toNat a with
    | none => rw [hq] at he; simp at he
    | some s =>
      obtain ⟨s', h3, h4⟩ := hm s hq
      rw [h3]
      exact ⟨rfl, h4⟩
  · rw [if_pos h0] at he
    exact absurd he h0

/-- P7.3. -/
theorem more_law {l : List Ga} {g : Ga} {a b : Int} (h1 : okL l) (h2 : okL (l ++ [g])) (he : (leS l a b).2.2 = 0) : (leS (l ++ [g]) a b).2.2 = 0 ∧ (leS l a b).1 ≤ (leS (l ++ [g]) a b).1 ∧ (moS (l ++ [g]) a b).1 ≤ (moS l a b).1 := by
  have k1 := more_ext (φ := fun x => x) (val := fun g => g.lo) (btr := fun x y => decide (y < x)) (fun _ _ => rfl) (fun x y => by simp) h1 h2 he
  have he' := (le_mo_err l a b).symm.trans he
  have k2 := more_ext (φ := fun x => -x) (val := fun g => g.hi) (btr := fun x y => decide (x < y)) (fun _ _ => by omega) (fun x y => by simp) h1 h2 he'
  refine ⟨k1.1, k1.2, ?_⟩
  have := k2.2
  show (extS (l ++ [g]) a b _ _).1 ≤ (extS l a b _ _).1
  omega
end Go.Proofs.Ytikaonfnaobciaa
