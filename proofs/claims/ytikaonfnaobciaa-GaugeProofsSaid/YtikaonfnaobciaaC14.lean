import Derived.Test.YtikaonfnaobciaaC13
namespace Go.Proofs.Ytikaonfnaobciaa
open Go.RowKit
attribute [local irreducible] Y St GSt
set_option maxRecDepth 100000
set_option linter.unusedVariables false
set_option linter.unusedSimpArgs false

theorem eqSpan (a b c d : Int) (w : World) : (Op.equalIn 10000 24 (.agg #[.int .i64 a, .int .i64 b]) (.agg #[.int .i64 c, .int .i64 d])).run Try.prog w = .ok (decide (a = c ∧ b = d)) w := by
  have u3 := Try.underlying3
  have a3 := Try.isAgg3
  have z3 := Try.sizeOf3
  have hS : Try.prog.underlying 24 = some (.struct (Try.prog.fieldsOf 24)) := by kernel_rfl
  have hp : Try.prog.stoodInHeld 24 = false := by kernel_rfl
  rw [show (10000 : Nat) = 9999 + 1 from rfl, run_equalIn_agg w 9999 24 _ _ hS hp]
  simp only [Program.fieldsOf, Try.underlying24]
  go_simp
  by_cases h1 : a = c <;> by_cases h2 : b = d <;> simp [h1, h2]
instance (a b c d : Int) : EQ Try.prog 24 [.int .i64 a, .int .i64 b] [.int .i64 c, .int .i64 d] (a = c ∧ b = d) inferInstance := ⟨fun w => eqSpan a b c d w, by kernel_rfl⟩

def awG : Ga := ⟨0, 2, 5, 6, 2, 2, 1, 1, 3, 3⟩
def awH : Ga := ⟨0, 2, 5, 9, 0, 0, 0, 0, 0, 0⟩
theorem tellsAw (w : World) : Pure_ Try.prog 27 [.agg #[.int .i64 0, .int .i64 2, .int .i64 5, .int .i64 6, .int .i64 2, .int .i64 2, .int .i64 1, .int .i64 1, .int .i64 3, .int .i64 3]] (.tuple [.agg [.int .i64 3, .int .i64 4].toArray, .int .i64 0].toArray) w := by
  have := Tells_any awG w
  rw [if_pos (by decide)] at this
  exact this
theorem bndS_aw : bndS [awG, awH] 0 2 = ((0, 0), 10) := by decide +kernel
theorem proS_aw : proS [awG, awH] 0 2 = ([1], [0], 0) := by decide +kernel
theorem bndAw (b : Nat) (w : World) (hG : GsAt w (some ⟨b, 0, none⟩) [awG, awH]) : Pure_ Try.prog 15 [.slice (some ⟨b, 0, none⟩) 2 2, .int .i64 0, .int .i64 2] (.tuple [.agg [.int .i64 0, .int .i64 0].toArray, .int .i64 10].toArray) w := by
  have := Bounds_any (some ⟨b, 0, none⟩) 2 [awG, awH] 0 2 w (by decide) hG
  rw [bndS_aw] at this
  exact this
theorem proAw (b : Nat) (w : World) (hG : GsAt w (some ⟨b, 0, none⟩) [awG, awH]) : Calls Try.prog 22 #[.slice (some ⟨b, 0, none⟩) 2 2, .int .i64 0, .int .i64 2] w (Ret33 ([1], [0], 0) w) := by
  have := Proof_any (some ⟨b, 0, none⟩) 2 [awG, awH] 0 2 w (by decide) hG
  rw [proS_aw] at this
  exact this
theorem gsAw {w0 w : World} {X M : List Nat} {L : List (Nat × Obj)} {b : Nat} (hw : Wd ⟨w0, X, L, M⟩ w) (hm : (b, Obj.cells (awG.vs ++ awH.vs).toArray 26 (0, 0)) ∈ L) : GsAt w (some ⟨b, 0, none⟩) [awG, awH] := fun k g hg => by
  refine ⟨b, 0, rfl, ?_⟩
  rcases k with _ | _ | k
  · injection hg with hg; subst hg; exact hw.cs hm (by (repeat (first | (exact GetAt.zero) | (apply GetAt.take) | (apply GetAt.skip))))
  · injection hg with hg; subst hg; exact hw.cs hm (by (repeat (first | (exact GetAt.zero) | (apply GetAt.take) | (apply GetAt.skip))))
  · simp at hg
theorem RowOk.isAt {v : Value} {n m cap : Nat} {p : Option Addr} {xs : List Value} {ints : List Int} {Lr : List (Nat × Obj)} {w : World} (h : RowOk 3 1 v n xs Lr) (hv : v = .slice p m cap) (hx : xs = ints.map (.int .i64)) (ho : ∀ q ∈ Lr, w.heap[q.1]? = some q.2) : IsAt w p ints := by
  cases h with
  | nil =>
    have : ints = [] := by simpa using hx.symm
    subst this
    intro k n hk; simp at hk
  | @row b n cap cur hlen hn hcap =>
    injection hv with h1 h2 h3
    subst h1
    intro k x hk
    refine ⟨b, 0, rfl, fun j v hj => ?_⟩
    have hb := ho _ (.head _)
    have h5 : (cur.take (n * 1))[k]? = some (.int .i64 x) := by rw [hx]; simp [hk]
    have h6 : cur[k]? = some (.int .i64 x) := by
      rw [List.getElem?_take] at h5
      split at h5
      · exact h5
      · cases h5
    have hj0 : j = 0 := by
      cases j with
      | zero => rfl
      | succ j => simp at hj
    subst hj0
    simp at hj
    subst hj
    rw [cell_own hb]
    simpa using h6
end Go.Proofs.Ytikaonfnaobciaa
