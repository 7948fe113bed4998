import Derived.Test.YtikaonfnaobciaaC7
namespace Go.Proofs.Ytikaonfnaobciaa
open Go.RowKit
set_option linter.unusedVariables false

/-! The first chain that tells the best: plain law. -/
section
variable (l : List Ga) (to : Int) (val : Ga → Int) (btr : Int → Int → Bool)
def hitB (step m : Int) (g : Ga) : Bool := decide (g.f = step) && (decide (g.t ≤ to) && (match bestS l to val btr g.t with | some s => decide (val g + s = m) | none => false))
def chainF : Nat → Int → List Int
  | 0, _ => []
  | n + 1, step => if step = to then [] else
    match bestS l to val btr step with
    | none => []
    | some m => match l.findIdx? (hitB l to val btr step m) with
      | none => []
      | some i => (i : Int) :: chainF n ((l[i]?.map (·.t)).getD to)
def chainS (step : Int) : List Int := chainF l to val btr (to - step).toNat step
end
variable {l : List Ga} {to : Int} {val : Ga → Int} {btr : Int → Int → Bool}

theorem hitB_iff {step m : Int} {g : Ga} : hitB l to val btr step m g = true ↔ g.f = step ∧ g.t ≤ to ∧ ∃ s, bestS l to val btr g.t = some s ∧ val g + s = m := by
  unfold hitB
  simp only [Bool.and_eq_true, decide_eq_true_eq]
  cases bestS l to val btr g.t <;> simp

theorem fold_from {step : Int} {rec : Int → Option Int} : ∀ (l' : List Ga) (acc : Option Int) {m : Int}, l'.foldl (stepB to val btr rec step) acc = some m → acc = some m ∨ ∃ g ∈ l', g.f = step ∧ g.t ≤ to ∧ ∃ s, rec g.t = some s ∧ val g + s = m
  | [], acc, m, h => .inl h
  | g :: l', acc, m, h => by
    simp only [List.foldl_cons] at h
    rcases fold_from l' _ h with h | ⟨g', hg', h⟩
    · unfold stepB at h
      split at h
      · rename_i hc
        cases hr : rec g.t with
        | none => rw [hr] at h; exact .inl h
        | some s =>
          rw [hr] at h
          simp only at h
          cases acc with
          | none =>
            simp only [pickB, Option.some.injEq] at h
            exact .inr ⟨g, .head _, hc.1, hc.2, s, hr, h⟩
          | some y =>
            simp only [pickB] at h
            split at h
            · simp only [Option.some.injEq] at h
              exact .inr ⟨g, .head _, hc.1, hc.2, s, hr, h⟩
            · exact .inl h
      · exact .inl h
    · exact .inr ⟨g', .tail _ hg', h⟩

/-- There is one that hits. -/
theorem hit_ex (hl : ∀ g ∈ l, g.f < g.t) {step m : Int} (h : step ≠ to) (hb : bestS l to val btr step = some m) : ∃ i g, l.findIdx? (hitB l to val btr step m) = some i ∧ l[i]? = some g ∧ hitB l to val btr step m g = true ∧ ∀ j, j < i → ∀ x, l[j]? = some x → hitB l to val btr step m x = false := by
  rw [bestS_eq hl h] at hb
  rcases fold_from l none hb with h1 | ⟨g, hg, h1⟩
  · cases h1
  have hh : hitB l to val btr step m g = true := hitB_iff.2 h1
  cases hq : l.findIdx? (hitB l to val btr step m) with
  | none => rw [List.findIdx?_eq_none_iff] at hq; rw [hq g hg] at hh; cases hh
  | some i =>
    rw [List.findIdx?_eq_some_iff_getElem] at hq
    obtain ⟨hi, h2, h3⟩ := hq
    refine ⟨i, l[i], rfl, List.getElem?_eq_getElem hi, h2, fun j hj x hx => ?_⟩
    have hjl : j < l.length := Nat.lt_trans hj hi
    have := h3 j hj
    rw [List.getElem?_eq_getElem hjl] at hx
    injection hx with hx
    rw [← hx]
    simpa using this

theorem chainF_same (hl : ∀ g ∈ l, g.f < g.t) : ∀ (n m : Nat) (step : Int), (to - step).toNat ≤ n → (to - step).toNat ≤ m → chainF l to val btr n step = chainF l to val btr m step
  | n, m, step, hn, hm => by
    have h0 : ∀ n, (to - step).toNat ≤ n → ¬ step < to → chainF l to val btr n step = [] := fun n hn h => by
      cases n with
      | zero => rfl
      | succ n =>
        simp only [chainF]
        split
        · rfl
        · rename_i hne
          rw [show bestS l to val btr step = none from by unfold bestS; exact bestF_late hl (by omega) _]
    by_cases h : step < to
    · cases n with
      | zero => omega
      | succ n =>
        cases m with
        | zero => omega
        | succ m =>
          simp only [chainF]
          split
          · rfl
          · rename_i hne
            cases hb : bestS l to val btr step with
            | none => rfl
            | some mm =>
              obtain ⟨i, g, h1, h2, h3, _⟩ := hit_ex hl hne hb
              simp only [h1, h2, Option.map_some, Option.getD_some]
              have h4 := hitB_iff.1 h3
              have := hl g (List.mem_of_getElem? h2)
              rw [chainF_same hl n m g.t (by omega) (by omega)]
    · rw [h0 n hn h, h0 m hm h]
theorem chainS_to : chainS l to val btr to = [] := by unfold chainS; rw [show (to - to).toNat = 0 by omega]; rfl
theorem chainS_eq (hl : ∀ g ∈ l, g.f < g.t) {step m : Int} (h : step < to) (hb : bestS l to val btr step = some m) {i : Nat} {g : Ga} (h1 : l.findIdx? (hitB l to val btr step m) = some i) (h2 : l[i]? = some g) (h3 : hitB l to val btr step m g = true) :
    chainS l to val btr step = (i : Int) :: chainS l to val btr g.t := by
  unfold chainS
  obtain ⟨n, hn⟩ : ∃ n, (to - step).toNat = n + 1 := ⟨(to - step).toNat - 1, by omega⟩
  rw [hn]
  have h4 := hitB_iff.1 h3
  have := hl g (List.mem_of_getElem? h2)
  simp only [chainF]
  rw [if_neg (by omega), hb]
  simp only [h1, h2, Option.map_some, Option.getD_some]
  rw [chainF_same hl n (to - g.t).toNat g.t (by omega) (by omega)]
end Go.Proofs.Ytikaonfnaobciaa
