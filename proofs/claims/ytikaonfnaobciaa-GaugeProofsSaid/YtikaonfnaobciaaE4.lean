/- What proves a contradiction: plain law. -/
import Derived.Test.YtikaonfnaobciaaE3
import Derived.Test.YtikaonfnaobciaaE2
namespace Go.Proofs.Ytikaonfnaobciaa
open Go.RowKit
set_option linter.unusedVariables false
set_option linter.unusedSimpArgs false

section
variable {l : List Ga} {b : Int} {val : Ga → Int} {btr : Int → Int → Bool} {φ : Int → Int}
theorem fold_ge (hb : ∀ x y, btr x y = true ↔ φ y < φ x) {step : Int} {g : Ga} {s : Int} (hf : g.f = step) (ht : g.t ≤ b) (hs : bestS l b val btr g.t = some s) : ∀ (l' : List Ga) (acc : Option Int), g ∈ l' → ∃ m, l'.foldl (stepB b val btr (bestS l b val btr) step) acc = some m ∧ φ (val g + s) ≤ φ m
  | [], _, h => by cases h
  | x :: r, acc, h => by
    simp only [List.foldl_cons]
    have mono : ∀ (l'' : List Ga) (o : Option Int) (v : Int), o = some v → ∃ m, l''.foldl (stepB b val btr (bestS l b val btr) step) o = some m ∧ φ v ≤ φ m := by
      intro l''
      induction l'' with
      | nil => intro o v ho; exact ⟨v, ho, Int.le_refl _⟩
      | cons y r' ih =>
        intro o v ho
        obtain ⟨v', h1, h2⟩ := stepB_ge (to := b) (val := val) (φ := φ) hb (bestS l b val btr) step o y v ho
        obtain ⟨m, h3, h4⟩ := ih _ v' h1
        exact ⟨m, h3, Int.le_trans h2 h4⟩
    rcases List.mem_cons.1 h with e | e
    · subst e
      have h1 : stepB b val btr (bestS l b val btr) step acc g = pickB btr acc (val g + s) := by
        unfold stepB; rw [if_pos ⟨hf, ht⟩, hs]
      obtain ⟨v', h2, h3⟩ := (pickB_ge (φ := φ) hb acc (val g + s)).2 _ rfl
      rw [h1]
      obtain ⟨m, h4, h5⟩ := mono r _ v' h2
      exact ⟨m, h4, Int.le_trans h3 h5⟩
    · exact fold_ge hb hf ht hs r _ e
theorem best_ge (hl : ∀ g ∈ l, g.f < g.t) (hb : ∀ x y, btr x y = true ↔ φ y < φ x) {g : Ga} (hg : g ∈ l) (ht : g.t ≤ b) {s : Int} (hs : bestS l b val btr g.t = some s) : ∃ m, bestS l b val btr g.f = some m ∧ φ (val g + s) ≤ φ m := by
  have := hl g hg
  rw [bestS_eq hl (by omega)]
  exact fold_ge hb rfl ht hs l none hg
theorem tolR_best (hl : ∀ g ∈ l, g.f < g.t) (hφ : ∀ x y, φ (x + y) = φ x + φ y) (hb : ∀ x y, btr x y = true ↔ φ y < φ x) (sel : Int × Int → Int) (hsel : ∀ (g : Ga) (s0 s1 : Int), sel (s0 + g.lo, s1 + g.hi) = sel (s0, s1) + val g) : ∀ (c : List Int) (s0 s1 a x y : Int), tolR l s0 s1 a c = some (x, y, b) → a ≤ b ∧ ∃ m, bestS l b val btr a = some m ∧ φ (sel (x, y) - sel (s0, s1)) ≤ φ m
  | [], s0, s1, a, x, y, h => by
    simp only [tolR, Option.some.injEq, Prod.mk.injEq] at h
    obtain ⟨rfl, rfl, rfl⟩ := h
    exact ⟨Int.le_refl _, 0, bestS_to, by rw [Int.sub_self]; exact Int.le_refl _⟩
  | i :: r, s0, s1, a, x, y, h => by
    rw [tolR] at h
    split at h
    · rename_i hc
      obtain ⟨⟨h0, h1⟩, hf⟩ := hc
      have hg : l.getD i.toNat ga0 ∈ l := by
        have : i.toNat < l.length := by omega
        exact List.mem_of_getElem? (getD_of this)
      obtain ⟨h2, m, h3, h4⟩ := tolR_best hl hφ hb sel hsel r _ _ _ _ _ h
      have h5 := hl _ hg
      obtain ⟨m', h6, h7⟩ := best_ge hl hb hg h2 h3
      rw [hf] at h6
      refine ⟨by omega, m', h6, Int.le_trans ?_ h7⟩
      rw [hsel] at h4
      rw [hφ]
      have e : φ (sel (x, y) - sel (s0, s1)) = φ (val (l.getD i.toNat ga0)) + φ (sel (x, y) - (sel (s0, s1) + val (l.getD i.toNat ga0))) := by
        rw [← hφ]; congr 1; omega
      omega
    · cases h
/-- The best chain is told as such, and its sum is the best. -/
theorem tolR_chain (hl : ∀ g ∈ l, g.f < g.t) (sel : Int × Int → Int) (hsel : ∀ (g : Ga) (s0 s1 : Int), sel (s0 + g.lo, s1 + g.hi) = sel (s0, s1) + val g) : ∀ (n : Nat) (a s0 s1 m : Int), (b - a).toNat ≤ n → bestS l b val btr a = some m → ∃ x y, tolR l s0 s1 a (chainS l b val btr a) = some (x, y, b) ∧ sel (x, y) = sel (s0, s1) + m := by
  intro n
  induction n with
  | zero =>
    intro a s0 s1 m hn hb
    by_cases e : a = b
    · subst e
      rw [bestS_to] at hb; injection hb with hb; subst hb
      rw [chainS_to]
      exact ⟨s0, s1, rfl, by omega⟩
    · rw [bestS_late hl (by omega)] at hb; cases hb
  | succ n ih =>
    intro a s0 s1 m hn hb
    by_cases e : a = b
    · subst e
      rw [bestS_to] at hb; injection hb with hb; subst hb
      rw [chainS_to]
      exact ⟨s0, s1, rfl, by omega⟩
    · by_cases e2 : b < a
      · rw [bestS_late hl e2] at hb; cases hb
      · obtain ⟨i, g, h1, h2, h3, _⟩ := hit_ex hl e hb
        rw [chainS_eq hl (by omega) hb h1 h2 h3, tolR]
        obtain ⟨h4, h5, s, h6, h7⟩ := hitB_iff.1 h3
        obtain ⟨hi, hg⟩ := List.getElem?_eq_some_iff.1 h2
        have hgd : l.getD (i : Int).toNat ga0 = g := by simp [List.getD_eq_getElem?_getD, hi, hg]
        rw [hgd, if_pos ⟨by omega, h4⟩]
        have := hl g (List.mem_of_getElem? h2)
        obtain ⟨x, y, h8, h9⟩ := ih g.t (s0 + g.lo) (s1 + g.hi) s (by omega) h6
        exact ⟨x, y, h8, by rw [h9, hsel]; omega⟩
end
theorem leS_best4 {l : List Ga} {a b : Int} (h : (leS l a b).2.2 = 0) : bestS l b (fun g => g.lo) (fun x y => decide (y < x)) a = some (leS l a b).1 ∧ (leS l a b).2.1 = chainS l b (fun g => g.lo) (fun x y => decide (y < x)) a := by
  unfold leS extS at h ⊢
  split at h
  · rename_i h1; exact absurd h h1
  · rename_i h1
    rw [if_neg h1]
    cases hq : bestS l b (fun g => g.lo) (fun x y => decide (y < x)) a with
    | none => rw [hq] at h; cases h
    | some m => exact ⟨rfl, rfl⟩
theorem moS_best4 {l : List Ga} {a b : Int} (h : (moS l a b).2.2 = 0) : bestS l b (fun g => g.hi) (fun x y => decide (x < y)) a = some (moS l a b).1 ∧ (moS l a b).2.1 = chainS l b (fun g => g.hi) (fun x y => decide (x < y)) a := by
  unfold moS extS at h ⊢
  split at h
  · rename_i h1; exact absurd h h1
  · rename_i h1
    rw [if_neg h1]
    cases hq : bestS l b (fun g => g.hi) (fun x y => decide (x < y)) a with
    | none => rw [hq] at h; cases h
    | some m => exact ⟨rfl, rfl⟩
section
variable {l : List Ga} {a b : Int}
theorem chaS_tol {c : List Int} (h : (chaS l a b c).2 = true) : 0 < c.length ∧ tolR l 0 0 a c = some ((chaS l a b c).1.1, (chaS l a b c).1.2, b) := by
  unfold chaS at h ⊢
  cases hq : tolR l 0 0 a c with
  | none => rw [hq] at h; cases h
  | some r =>
    obtain ⟨x, y, e⟩ := r
    rw [hq] at h
    obtain ⟨h1, h2⟩ := of_decide_eq_true h
    dsimp only at h2
    subst h2
    exact ⟨h1, rfl⟩
/-- Best chains that contradict prove it. -/
theorem prv_best (hs : strE l a b = 0) {m n : Int} {xs ys : List Int} (h1 : leS l a b = (m, xs, 0)) (h2 : moS l a b = (n, ys, 0)) (h : n < m) (hx : 0 < xs.length) (hy : 0 < ys.length) : prvP l a b xs ys := by
  have hz := (strE_zero hs).1
  obtain ⟨e1, e2⟩ := leS_best4 (l := l) (a := a) (b := b) (by rw [h1])
  obtain ⟨e3, e4⟩ := moS_best4 (l := l) (a := a) (b := b) (by rw [h2])
  rw [h1] at e1 e2
  rw [h2] at e3 e4
  obtain ⟨x, y, f1, f2⟩ := tolR_chain (okL_ft hz) (val := fun g => g.lo) (fun p => p.1) (fun g s0 s1 => rfl) (b - a).toNat a 0 0 m (Nat.le_refl _) e1
  obtain ⟨x', y', f3, f4⟩ := tolR_chain (okL_ft hz) (val := fun g => g.hi) (fun p => p.2) (fun g s0 s1 => rfl) (b - a).toNat a 0 0 n (Nat.le_refl _) e3
  dsimp only at f2 f4 e2 e4
  rw [← e2] at f1
  rw [← e4] at f3
  unfold prvP chaS
  rw [f1, f3]
  refine ⟨hs, by simp [hx], by simp [hy], by dsimp only; omega⟩
/-- What is proved is so. -/
theorem prv_bnd {xs ys : List Int} (h : prvP l a b xs ys) : (leS l a b).2.2 = 0 ∧ (moS l a b).1 < (leS l a b).1 ∧ wrS l ≠ none := by
  obtain ⟨hs, h1, h2, h3⟩ := h
  obtain ⟨hz, z1, z2, z3⟩ := strE_zero hs
  obtain ⟨g1, g2⟩ := chaS_tol h1
  obtain ⟨g3, g4⟩ := chaS_tol h2
  obtain ⟨_, m, e1, e2⟩ := tolR_best (φ := fun x => x) (okL_ft hz) (val := fun g => g.lo) (btr := fun x y => decide (y < x)) (fun _ _ => rfl) (fun x y => by simp) (fun p => p.1) (fun g s0 s1 => rfl) _ _ _ _ _ _ g2
  obtain ⟨_, n, e3, e4⟩ := tolR_best (φ := fun x => -x) (okL_ft hz) (val := fun g => g.hi) (btr := fun x y => decide (x < y)) (fun x y => by omega) (fun x y => by simp) (fun p => p.2) (fun g s0 s1 => rfl) _ _ _ _ _ _ g4
  dsimp only at e2 e4
  have hle : leS l a b = (m, chainS l b (fun g => g.lo) (fun x y => decide (y < x)) a, 0) := by unfold leS extS; rw [if_neg (by omega), e1]
  have hmo : moS l a b = (n, chainS l b (fun g => g.hi) (fun x y => decide (x < y)) a, 0) := by unfold moS extS; rw [if_neg (by omega), e3]
  rw [hle, hmo]
  refine ⟨rfl, by dsimp only; omega, fun hw => ?_⟩
  have hbn := bndS_ok hle hmo
  rw [if_pos (by omega)] at hbn
  have hmin := wOut_min (l := l) (ts := l.map (·.t)) (l.map (·.f)) (P := fun _ => False) (o := none) (fun _ h => h)
  rw [← wrS_eq, hw] at hmin
  have hfa : a ∈ l.map (·.f) := by
    cases xs with
    | nil => simp at g1
    | cons i r =>
      rw [tolR] at g2
      split at g2
      · rename_i hc
        obtain ⟨⟨h0, h1⟩, hf⟩ := hc
        exact List.mem_map.2 ⟨_, List.mem_of_getElem? (getD_of (l := l) (k := i.toNat) (by omega)), hf⟩
      · cases g2
  have htb : ∀ (c : List Int) (s0 s1 a' x y : Int), 0 < c.length → tolR l s0 s1 a' c = some (x, y, b) → b ∈ l.map (·.t) := by
    intro c
    induction c with
    | nil => intro _ _ _ _ _ h; simp at h
    | cons i r ih =>
      intro s0 s1 a' x y _ h
      rw [tolR] at h
      split at h
      · rename_i hc
        obtain ⟨⟨h0, h1⟩, hf⟩ := hc
        cases r with
        | nil =>
          simp only [tolR, Option.some.injEq, Prod.mk.injEq] at h
          exact List.mem_map.2 ⟨_, List.mem_of_getElem? (getD_of (l := l) (k := i.toNat) (by omega)), h.2.2⟩
        | cons j r' => exact ih _ _ _ _ _ (by simp) h
      · cases h
  exact hmin (a, b) (.inr ⟨hfa, htb _ _ _ _ _ _ g1 g2, by dsimp only; omega, by dsimp only; rw [hbn]⟩)
end
end Go.Proofs.Ytikaonfnaobciaa
