import Derived.Test.YtikaonfnaobciaaC4
namespace Go.Proofs.Ytikaonfnaobciaa
open Go.RowKit
set_option linter.unusedVariables false

/-! The best sum of a chain: plain law. -/
section
variable (l : List Ga) (to : Int) (val : Ga → Int) (btr : Int → Int → Bool)
def pickB (acc : Option Int) (x : Int) : Option Int := match acc with | none => some x | some y => if btr x y = true then some x else some y
def stepB (rec : Int → Option Int) (step : Int) (acc : Option Int) (g : Ga) : Option Int :=
  if g.f = step ∧ g.t ≤ to then (match rec g.t with | none => acc | some s => pickB btr acc (val g + s)) else acc
def bestF : Nat → Int → Option Int
  | 0, step => if step = to then some 0 else none
  | n + 1, step => if step = to then some 0 else l.foldl (stepB to val btr (bestF n) step) none
def bestS (step : Int) : Option Int := bestF l to val btr (to - step).toNat step
end
variable {l : List Ga} {to : Int} {val : Ga → Int} {btr : Int → Int → Bool}

theorem foldl_congr' {α β : Type} {f f' : β → α → β} : ∀ (l : List α) (b : β), (∀ b, ∀ a ∈ l, f b a = f' b a) → l.foldl f b = l.foldl f' b
  | [], _, _ => rfl
  | a :: l, b, h => by
    simp only [List.foldl_cons]
    rw [h b a (.head _)]
    exact foldl_congr' l _ (fun b a ha => h b a (.tail _ ha))
theorem foldl_id {α β : Type} {f : β → α → β} : ∀ (l : List α) (b : β), (∀ b, ∀ a ∈ l, f b a = b) → l.foldl f b = b
  | [], _, _ => rfl
  | a :: l, b, h => by simp only [List.foldl_cons]; rw [h b a (.head _)]; exact foldl_id l _ (fun b a ha => h b a (.tail _ ha))

theorem bestF_late (hl : ∀ g ∈ l, g.f < g.t) {step : Int} (h : to < step) : ∀ n, bestF l to val btr n step = none
  | 0 => by simp only [bestF]; rw [if_neg (by omega)]
  | n + 1 => by
    simp only [bestF]
    rw [if_neg (by omega)]
    exact foldl_id l none fun b g hg => by
      have := hl g hg
      unfold stepB
      rw [if_neg (by omega)]
theorem bestF_same (hl : ∀ g ∈ l, g.f < g.t) : ∀ (n m : Nat) (step : Int), (to - step).toNat ≤ n → (to - step).toNat ≤ m → bestF l to val btr n step = bestF l to val btr m step
  | n, m, step, hn, hm => by
    by_cases h : step = to
    · cases n <;> cases m <;> simp [bestF, h]
    rcases Int.lt_or_lt_of_ne h with h1 | h1
    · cases n with
      | zero => omega
      | succ n =>
        cases m with
        | zero => omega
        | succ m =>
          simp only [bestF]
          rw [if_neg h, if_neg h]
          refine foldl_congr' l none fun b g hg => ?_
          have := hl g hg
          unfold stepB
          by_cases hc : g.f = step ∧ g.t ≤ to
          · rw [if_pos hc, if_pos hc, bestF_same hl n m g.t (by omega) (by omega)]
          · rw [if_neg hc, if_neg hc]
    · rw [bestF_late hl h1, bestF_late hl h1]
theorem bestS_to : bestS l to val btr to = some 0 := by
  unfold bestS; rw [show (to - to).toNat = 0 by omega]; simp [bestF]
theorem bestS_eq (hl : ∀ g ∈ l, g.f < g.t) {step : Int} (h : step ≠ to) : bestS l to val btr step = l.foldl (stepB to val btr (bestS l to val btr) step) none := by
  unfold bestS
  rcases Int.lt_or_lt_of_ne h with h1 | h1
  · obtain ⟨n, hn⟩ : ∃ n, (to - step).toNat = n + 1 := ⟨(to - step).toNat - 1, by omega⟩
    rw [hn]
    simp only [bestF]
    rw [if_neg h]
    refine foldl_congr' l none fun b g hg => ?_
    have := hl g hg
    unfold stepB
    by_cases hc : g.f = step ∧ g.t ≤ to
    · rw [if_pos hc, if_pos hc, bestF_same hl n (to - g.t).toNat g.t (by omega) (by omega)]
    · rw [if_neg hc, if_neg hc]
  · rw [bestF_late hl h1]
    exact (foldl_id l none fun b g hg => by
      have := hl g hg
      unfold stepB
      rw [if_neg (by omega)]).symm

def smallO (c : Int) (o : Option Int) : Prop := ∀ s, o = some s → -c ≤ s ∧ s ≤ c
theorem stepB_small {rec : Int → Option Int} {step c : Int} (hv : ∀ g ∈ l, -4000000000 ≤ val g ∧ val g ≤ 4000000000) (hr : ∀ t, smallO c (rec t)) : ∀ (l' : List Ga) (acc : Option Int), (∀ g ∈ l', g ∈ l) → smallO (c + 4000000000) acc → smallO (c + 4000000000) (l'.foldl (stepB to val btr rec step) acc)
  | [], _, _, h => h
  | g :: l', acc, hs, h => by
    simp only [List.foldl_cons]
    refine stepB_small hv hr l' _ (fun x hx => hs x (.tail _ hx)) ?_
    unfold stepB
    split
    · split
      · exact h
      · rename_i s hq
        have h1 := hr _ s hq
        have h2 := hv g (hs g (.head _))
        unfold pickB
        split
        · intro x hx; injection hx with hx; omega
        · split
          · intro x hx; injection hx with hx; omega
          · exact h
    · exact h
theorem bestF_small (hv : ∀ g ∈ l, -4000000000 ≤ val g ∧ val g ≤ 4000000000) : ∀ (n : Nat) (step : Int), smallO (4000000000 * n) (bestF l to val btr n step)
  | 0, step => by
    intro s hs
    simp only [bestF] at hs
    split at hs
    · injection hs with hs; omega
    · cases hs
  | n + 1, step => by
    simp only [bestF]
    split
    · intro s hs; injection hs with hs; omega
    · have := stepB_small (to := to) (btr := btr) (step := step) hv (c := 4000000000 * n) (fun t => bestF_small hv n t) l none (fun _ h => h) (fun s hs => by cases hs)
      intro s hs
      have := this s hs
      omega
theorem bestS_small (hv : ∀ g ∈ l, -4000000000 ≤ val g ∧ val g ≤ 4000000000) {step s : Int} (h0 : 0 ≤ step) (h1 : to ≤ 1000000) (hs : bestS l to val btr step = some s) : -4000000000000000 ≤ s ∧ s ≤ 4000000000000000 := by
  have := bestF_small (to := to) (btr := btr) hv (to - step).toNat step s hs
  omega
theorem take_fold {α β : Type} {f : β → α → β} {l : List α} {b : β} {k : Nat} {g : α} (hg : l[k]? = some g) : (l.take (k + 1)).foldl f b = f ((l.take k).foldl f b) g := by
  rw [List.take_add_one, hg]; simp

abbrev markC (o : Option Int) : List Value := match o with | none => [.int .i64 0, .bool false] | some s => [.int .i64 s, .bool true]
abbrev markV (o : Option Int) : Value := .agg (markC o).toArray
end Go.Proofs.Ytikaonfnaobciaa
