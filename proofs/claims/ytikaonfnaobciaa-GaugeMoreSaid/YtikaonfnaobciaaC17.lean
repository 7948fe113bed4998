import Derived.Test.YtikaonfnaobciaaC16
import Derived.Test.YtikaonfnaobciaaSxM
namespace Go.Proofs.Ytikaonfnaobciaa
open Go.RowKit
set_option maxRecDepth 100000
set_option linter.unusedVariables false
set_option linter.unusedSimpArgs false

/-! Gauges in rows. -/
abbrev flat (l : List Ga) : List Value := l.flatMap Ga.vs
theorem flat_get : ∀ {l : List Ga} {k : Nat} {g : Ga}, l[k]? = some g → ∀ j, j < 10 → (flat l)[k * 10 + j]? = g.vs[j]?
  | [], _, _, h, _, _ => by simp at h
  | x :: l, 0, g, h, j, hj => by
    injection h with h
    subst h
    simp only [flat, List.flatMap_cons, Nat.zero_mul, Nat.zero_add]
    rw [List.getElem?_append_left (by simpa using hj)]
  | x :: l, k + 1, g, h, j, hj => by
    have := flat_get (l := l) (k := k) (g := g) (by simpa using h) j hj
    simp only [flat, List.flatMap_cons] at this ⊢
    rw [List.getElem?_append_right (by simp; omega)]
    rw [← this]
    congr 1
    simp; omega
theorem flat_length : ∀ (l : List Ga), (flat l).length = l.length * 10
  | [] => rfl
  | x :: l => by
    have := flat_length l
    simp only [flat, List.flatMap_cons, List.length_append, List.length_cons] at this ⊢
    rw [this]; simp; omega
theorem Cs.app {w : World} {b o : Nat} {xs ys : List Value} (h1 : Cs w b o xs) (h2 : Cs w b (o + xs.length) ys) : Cs w b o (xs ++ ys) := fun j v hj => by
  rcases Nat.lt_or_ge j xs.length with h | h
  · rw [List.getElem?_append_left h] at hj; exact h1 j v hj
  · rw [List.getElem?_append_right h] at hj
    have := h2 (j - xs.length) v hj
    rw [show o + xs.length + (j - xs.length) = o + j by omega] at this
    exact this
theorem flat_cs {w : World} {b : Nat} : ∀ (l : List Ga) (o : Nat), (∀ k g, l[k]? = some g → Cs w b (o + k * 10) g.vs) → Cs w b o (flat l)
  | [], _, _ => fun j v hj => by simp at hj
  | x :: l, o, h => by
    simp only [flat, List.flatMap_cons]
    refine Cs.app (by simpa using h 0 x rfl) ?_
    refine flat_cs l (o + 10) fun k g hk => ?_
    have := h (k + 1) g (by simpa using hk)
    rw [show o + 10 + k * 10 = o + (k + 1) * 10 by omega]
    exact this
theorem flat_one : ∀ (l : List Ga), ∀ u ∈ flat l, u.oneCell' = true := fun l u hu => by
  obtain ⟨g, _, hg⟩ := List.mem_flatMap.1 hu
  simp only [Ga.vs, List.mem_cons, List.not_mem_nil, or_false] at hg
  rcases hg with rfl | rfl | rfl | rfl | rfl | rfl | rfl | rfl | rfl | rfl <;> rfl
theorem RowOk.gsAt {v : Value} {n m cap : Nat} {p : Option Addr} {xs : List Value} {l : List Ga} {Lr : List (Nat × Obj)} {w : World} (h : RowOk 26 10 v n xs Lr) (hv : v = .slice p m cap) (hx : xs = flat l) (ho : ∀ q ∈ Lr, w.heap[q.1]? = some q.2) : GsAt w p l := by
  cases h with
  | nil =>
    have : l.length = 0 := by have := flat_length l; rw [← hx] at this; simp at this; omega
    have : l = [] := List.length_eq_zero_iff.1 this
    subst this
    intro k n hk; simp at hk
  | @row b n cap cur hlen hn hcap =>
    injection hv with h1 h2 h3
    subst h1
    intro k g hk
    refine ⟨b, 0, rfl, fun j v hj => ?_⟩
    have hb := ho _ (.head _)
    have hj10 : j < 10 := by have := (List.getElem?_eq_some_iff.1 hj).1; simpa using this
    have h5 := flat_get hk j hj10
    rw [← hx, hj] at h5
    rw [cell_own hb]
    rw [List.getElem?_take] at h5
    split at h5
    · simpa using h5
    · cases h5
theorem RowOk.form2 {e size n : Nat} {v : Value} {xs : List Value} {Lr : List (Nat × Obj)} (h : RowOk e size v n xs Lr) : ∃ p cap, v = .slice p n cap ∧ n ≤ cap := by
  cases h with
  | nil => exact ⟨none, 0, rfl, Nat.le_refl _⟩
  | row _ h => exact ⟨_, _, rfl, h⟩
theorem Stp.appendG {r : Option Nat} {N : Nat} {E : Env} {D : List Nat} {w0 : World} {X : List Nat} {L A Lr : List (Nat × Obj)} {M : List Nat} {d n cap ty : Nat} {pos : String} {aft : Array Edge} {g : Option (Nat × Bool)} {vr : Value} {xs : List Value} {x y : Operand} {p : Option Addr} {l : List Ga}
    (hx : ev E x = some vr) (hy : ev E y = some (.slice p l.length cap)) (hrow : RowOk 26 10 vr n xs Lr) (hperm : L.Perm (A ++ Lr)) (hG : ∀ w, Wd ⟨w0, X, L, M⟩ w → GsAt w p l) (hmax : n + l.length ≤ 1000) (hd : Nat.blt d N = true) :
    Stp Try.prog r N E D ⟨w0, X, L, M⟩ ⟨some d, .call { callee := .builtin .append, args := #[x, y], argTypes := #[22, 22] }, ty, pos, aft, g⟩ (fun q : Value × List (Nat × Obj) => RowOk 26 10 q.1 (n + l.length) (xs ++ flat l) q.2) d (fun q => q.1) (fun q => ⟨w0, X, A ++ q.2, M⟩) := by
  rcases l with _ | ⟨g0, l⟩
  · intro K h
    obtain ⟨pp, cc, hv, hn⟩ := hrow.form2
    subst hv
    refine St.val (Y.append0 (size := 10) (bytes := 0) hx hy hn) hd (St.permL hperm ?_)
    exact h (_, Lr) (by simpa using hrow)
  · intro K h a w ha hw
    obtain ⟨b, o, rfl, _⟩ := hG w hw 0 g0 rfl
    refine Stp.append (z := .agg #[.int .i64 0, .int .i64 0, .int .i64 0, .int .i64 0, .int .i64 0, .int .i64 0, .int .i64 0, .int .i64 0, .int .i64 0, .int .i64 0]) (bytes := 80) hx hy hrow hperm rfl (by omega) (flat_length _) (fun w hw j u hj => ?_) (flat_one _) (by omega) (by omega) hd K h a w ha hw
    have hg := hG w hw
    have := flat_cs (w := w) (b := b) (g0 :: l) o (fun k g hk => by
      obtain ⟨b', o', e, hc⟩ := hg k g hk
      injection e with e; injection e with e1 e2; subst e1; subst e2; exact hc) j u hj
    rw [Addr.add_none]; exact this
end Go.Proofs.Ytikaonfnaobciaa
