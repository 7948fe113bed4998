/- Bounds and Mean, of the reference and of the program. -/
import Derived.Test.YtikaonfnaobciaaD5
namespace Go.Proofs.Ytikaonfnaobciaa
open Go.RowKit
attribute [local irreducible] spl spln QuoV RemV AggEq CallV CallP LoopV RangeV RegionV FinV AgainV Known IxV
set_option maxRecDepth 100000
set_option linter.unusedVariables false
set_option linter.unusedSimpArgs false

section
variable {l : List Ga} {a b : Int}
theorem leS_err (h : strE l a b ≠ 0) : leS l a b = (0, [], strE l a b) := by unfold leS extS; rw [if_pos h]
theorem moS_err (h : strE l a b ≠ 0) : moS l a b = (0, [], strE l a b) := by unfold moS extS; rw [if_pos h]
/-- What Least and Most are: an error, none, or the best chains. -/
inductive Cas (l : List Ga) (a b : Int) : Prop
  | err (h : strE l a b ≠ 0) (h1 : leS l a b = (0, [], strE l a b)) (h2 : moS l a b = (0, [], strE l a b))
  | no (h : strE l a b = 0) (h1 : leS l a b = (0, [], 8)) (h2 : moS l a b = (0, [], 8)) (h3 : bestR l a b false = none) (h4 : bestR l a b true = none)
  | yes (h : strE l a b = 0) (m n : Int) (xs ys : List Int) (h1 : leS l a b = (m, xs, 0)) (h2 : moS l a b = (n, ys, 0)) (h3 : bestR l a b false = some (m, xs)) (h4 : bestR l a b true = some (-n, ys)) (b1 : -4000000000000000 ≤ m ∧ m ≤ 4000000000000000) (b2 : -4000000000000000 ≤ n ∧ n ≤ 4000000000000000)
theorem cas (l : List Ga) (a b : Int) : Cas l a b := by
  by_cases h : strE l a b = 0
  · obtain ⟨hz, h0, hab, hb⟩ := strE_zero h
    have e1 := bestR_le hz (a := a) (b := b) (by omega)
    have e2 := bestR_mo hz (a := a) (b := b) (by omega)
    have hs := bestF_isSome (to := b) (val := fun g => g.lo) (btr := fun x y => decide (y < x)) (val' := fun g => g.hi) (btr' := fun x y => decide (x < y)) l (b - a).toNat a
    have hv1 : ∀ g ∈ l, -4000000000 ≤ g.lo ∧ g.lo ≤ 4000000000 := fun g hg => by have := hz.2.2 g hg; obtain ⟨_, _, _, _, _⟩ := this; simp only [Ga.lo]; omega
    have hv2 : ∀ g ∈ l, -4000000000 ≤ g.hi ∧ g.hi ≤ 4000000000 := fun g hg => by have := hz.2.2 g hg; obtain ⟨_, _, _, _, _⟩ := this; simp only [Ga.hi]; omega
    change (bestS l b (fun g => g.lo) (fun x y => decide (y < x)) a).isSome = (bestS l b (fun g => g.hi) (fun x y => decide (x < y)) a).isSome at hs
    cases q1 : bestS l b (fun g => g.lo) (fun x y => decide (y < x)) a with
    | none =>
      cases q2 : bestS l b (fun g => g.hi) (fun x y => decide (x < y)) a with
      | some n => rw [q1, q2] at hs; cases hs
      | none =>
        rw [q1] at e1
        rw [q2] at e2
        exact .no h (by unfold leS extS; rw [if_neg (by omega), q1]) (by unfold moS extS; rw [if_neg (by omega), q2]) e1 e2
    | some m =>
      cases q2 : bestS l b (fun g => g.hi) (fun x y => decide (x < y)) a with
      | none => rw [q1, q2] at hs; cases hs
      | some n =>
        rw [q1] at e1
        rw [q2] at e2
        exact .yes h m n _ _ (by unfold leS extS; rw [if_neg (by omega), q1]) (by unfold moS extS; rw [if_neg (by omega), q2]) e1 e2 (bestS_small hv1 h0 hb q1) (bestS_small hv2 h0 hb q2)
  · exact .err h (leS_err h) (moS_err h)

theorem bndS_err (h : (leS l a b).2.2 ≠ 0) : bndS l a b = ((0, 0), (leS l a b).2.2) := by
  have : (boS l a b).2.2.2 = (leS l a b).2.2 := by unfold boS; rw [if_neg h]
  unfold bndS; rw [this, if_neg h]
theorem bndS_ok {m n : Int} {xs ys : List Int} (h1 : leS l a b = (m, xs, 0)) (h2 : moS l a b = (n, ys, 0)) : bndS l a b = if n < m then ((0, 0), 10) else ((m, n), 0) := by
  have : boS l a b = ((m, n), xs, ys, 0) := by unfold boS; rw [h1, h2]; rfl
  unfold bndS; rw [this]; rfl
abbrev bndV (l : List Ga) (a b : Int) : SV := .tup [.agg [.int .i64 (bndS l a b).1.1, .int .i64 (bndS l a b).1.2], .int .i64 (bndS l a b).2]
def meaS (l : List Ga) (a b : Int) : (Int × Int) × (Int × Int) × Int :=
  if (bndS l a b).2 = 0 then ((ratN (bndS l a b).1.1 (b - a), ratD (bndS l a b).1.1 (b - a)), (ratN (bndS l a b).1.2 (b - a), ratD (bndS l a b).1.2 (b - a)), 0) else ((0, 0), (0, 0), (bndS l a b).2)
abbrev meaV (l : List Ga) (a b : Int) : SV := .tup [.agg [.int .i64 (meaS l a b).1.1, .int .i64 (meaS l a b).1.2], .agg [.int .i64 (meaS l a b).2.1.1, .int .i64 (meaS l a b).2.1.2], .int .i64 (meaS l a b).2.2]
theorem bndS_bd (h : (bndS l a b).2 = 0) : 0 ≤ a ∧ a < b ∧ b ≤ 1000000 ∧ (-4000000000000000 ≤ (bndS l a b).1.1 ∧ (bndS l a b).1.1 ≤ 4000000000000000) ∧ (-4000000000000000 ≤ (bndS l a b).1.2 ∧ (bndS l a b).1.2 ≤ 4000000000000000) := by
  rcases cas l a b with ⟨he, h1, h2⟩ | ⟨he, h1, h2, _, _⟩ | ⟨he, m, n, xs, ys, h1, h2, _, _, b1, b2⟩
  · rw [bndS_err (by rw [h1]; exact he)] at h; rw [h1] at h; exact absurd h he
  · rw [bndS_err (by rw [h1]; decide)] at h; rw [h1] at h; cases h
  · have hz := strE_zero he
    refine ⟨hz.2.1, hz.2.2.1, hz.2.2.2, ?_⟩
    rw [bndS_ok h1 h2] at h ⊢
    split at h
    · cases h
    · rename_i hc; rw [if_neg hc]; exact ⟨b1, b2⟩

variable {p : Option Addr} {c1 : Nat} {w : World}
theorem rBounds_any (hl : l.length ≤ 9223372036854775807) (h1 : RowAt w p 10 l.length (gRow l)) :
    Pure_ Try.prog 16 (SV.vals [.sl 1000 p 10 none l.length c1, .int .i64 a, .int .i64 b]) (bndV l a b).val w := by
  refine V.pure (H := [(1000, .row false p 10 26 l.length c1 (gRow l))]) tab_ok mixed [] Try.func16 rfl Try.ntmps16 rfl rfl (.cons (.ext h1 (by simp)) .nil) ?_
  rcases cas l a b with ⟨he, q1, q2⟩ | ⟨he, q1, q2, h3, h4⟩ | ⟨he, m, n, xs, ys, q1, q2, h3, h4, b1, b2⟩
  · have hlp : ∀ w', RowAt w' p 10 l.length (gRow l) → Pure_ Try.prog 12 [.slice p l.length c1, .int .i64 a, .int .i64 b] (SV.tup [.int .i64 0, nilV, .int .i64 (strE l a b)]).val w' := fun w' r => rLeast_err hl r he
    unfold bndV
    rw [bndS_err (by rw [q1]; exact he), q1]
    (repeat' (first | ((with_reducible show drawB _ _ = true); kernel_rfl) | ((with_reducible show anyB _ = true); kernel_rfl) | ((with_reducible show _ = _); first | exact rfl | omega | assumption) | ((with_reducible show (_ : Int) ≤ _); first | omega | (exact bytes_leZ (by decide) (by omega) (by omega))) | ((with_reducible show (_ : Int) < _); omega) | ((with_reducible show (_ : Nat) ≤ _); first | omega | (simp only [addn]; omega) | (refine bytes_le (by decide) ?_; omega)) | ((with_reducible show (_ : Nat) < _); first | assumption | omega | (simp only [addn]; omega)) | (with_reducible exact trivial) | ((try (conv => whnf)); (first | (with_reducible refine And.intro ?_ ?_) | ((with_reducible show spl _ _); first | (refine spl_t (by first | omega | assumption | exact rfl) ?_) | (refine spl_f (by first | omega | assumption | (intro h; cases h; done)) ?_) | (refine spl_i (fun _ => ?_) (fun _ => ?_))) | ((with_reducible show spln _ _); first | (refine spln_t (by first | omega | assumption | exact rfl) ?_) | (refine spln_f (by first | omega | assumption | (intro h; cases h; done)) ?_) | (refine spln_i (fun _ => ?_) (fun _ => ?_))) | (with_reducible refine fun h : (_ : Int) = _ => absurd h (by omega)) | (with_reducible refine fun h : (_ : Nat) = _ => absurd h (by omega)) | (with_reducible intro _) | (with_reducible refine QuoV.pos (by omega) ?_) | (with_reducible refine RemV.pos (by omega) ?_) | ((with_reducible show IxV _ _); first | (refine IxV.nat _ rfl ?_) | (refine IxV.gen ?_)) | ((with_reducible show CallV _ _ _ _ _ _ _ _); (first | (refine CallV.pure _ inferInstance (fun w' L' hL' hw' => hlp w' (hL'.row (i := 1000) rfl hw')) ?_) | (refine CallV.new inferInstance (fun w' L' hL' hw' => hlo w' (hL'.row (i := 1000) rfl hw')) ?_) | (refine CallV.new inferInstance (fun w' L' hL' hw' => hhi w' (hL'.row (i := 1000) rfl hw')) ?_) | (refine CallV.pure _ inferInstance (fun w' L' hL' hw' => hr1 w') ?_) | (refine CallV.pure _ inferInstance (fun w' L' hL' hw' => hr2 w') ?_) | (refine CallP.mk _ inferInstance (fun w' L' hL' hw' => hr1 w') ?_) | (refine CallP.mk _ inferInstance (fun w' L' hL' hw' => hr2 w') ?_))) | ((with_reducible show CallP _ _ _ _ _ _ _ _); (first | (refine CallV.pure _ inferInstance (fun w' L' hL' hw' => hlp w' (hL'.row (i := 1000) rfl hw')) ?_) | (refine CallV.new inferInstance (fun w' L' hL' hw' => hlo w' (hL'.row (i := 1000) rfl hw')) ?_) | (refine CallV.new inferInstance (fun w' L' hL' hw' => hhi w' (hL'.row (i := 1000) rfl hw')) ?_) | (refine CallV.pure _ inferInstance (fun w' L' hL' hw' => hr1 w') ?_) | (refine CallV.pure _ inferInstance (fun w' L' hL' hw' => hr2 w') ?_) | (refine CallP.mk _ inferInstance (fun w' L' hL' hw' => hr1 w') ?_) | (refine CallP.mk _ inferInstance (fun w' L' hL' hw' => hr2 w') ?_))) | (with_reducible exact trivial) | (with_reducible exact fun _ _ => trivial) | ((with_reducible show Known _ _ _ _ _ _ _ _); (fail "not known")) | (fail "no more")))))
    (first | (refine FinV.t rfl ?_; omega) | (refine FinV.f rfl ?_; omega) | (refine FinV.pure ?_; rfl))
  · have hlp : ∀ w', RowAt w' p 10 l.length (gRow l) → Pure_ Try.prog 12 [.slice p l.length c1, .int .i64 a, .int .i64 b] (SV.tup [.int .i64 0, nilV, .int .i64 8]).val w' := fun w' r => rLeast_none r he h3
    unfold bndV
    rw [bndS_err (by rw [q1]; decide), q1]
    (repeat' (first | ((with_reducible show drawB _ _ = true); kernel_rfl) | ((with_reducible show anyB _ = true); kernel_rfl) | ((with_reducible show _ = _); first | exact rfl | omega | assumption) | ((with_reducible show (_ : Int) ≤ _); first | omega | (exact bytes_leZ (by decide) (by omega) (by omega))) | ((with_reducible show (_ : Int) < _); omega) | ((with_reducible show (_ : Nat) ≤ _); first | omega | (simp only [addn]; omega) | (refine bytes_le (by decide) ?_; omega)) | ((with_reducible show (_ : Nat) < _); first | assumption | omega | (simp only [addn]; omega)) | (with_reducible exact trivial) | ((try (conv => whnf)); (first | (with_reducible refine And.intro ?_ ?_) | ((with_reducible show spl _ _); first | (refine spl_t (by first | omega | assumption | exact rfl) ?_) | (refine spl_f (by first | omega | assumption | (intro h; cases h; done)) ?_) | (refine spl_i (fun _ => ?_) (fun _ => ?_))) | ((with_reducible show spln _ _); first | (refine spln_t (by first | omega | assumption | exact rfl) ?_) | (refine spln_f (by first | omega | assumption | (intro h; cases h; done)) ?_) | (refine spln_i (fun _ => ?_) (fun _ => ?_))) | (with_reducible refine fun h : (_ : Int) = _ => absurd h (by omega)) | (with_reducible refine fun h : (_ : Nat) = _ => absurd h (by omega)) | (with_reducible intro _) | (with_reducible refine QuoV.pos (by omega) ?_) | (with_reducible refine RemV.pos (by omega) ?_) | ((with_reducible show IxV _ _); first | (refine IxV.nat _ rfl ?_) | (refine IxV.gen ?_)) | ((with_reducible show CallV _ _ _ _ _ _ _ _); (first | (refine CallV.pure _ inferInstance (fun w' L' hL' hw' => hlp w' (hL'.row (i := 1000) rfl hw')) ?_) | (refine CallV.new inferInstance (fun w' L' hL' hw' => hlo w' (hL'.row (i := 1000) rfl hw')) ?_) | (refine CallV.new inferInstance (fun w' L' hL' hw' => hhi w' (hL'.row (i := 1000) rfl hw')) ?_) | (refine CallV.pure _ inferInstance (fun w' L' hL' hw' => hr1 w') ?_) | (refine CallV.pure _ inferInstance (fun w' L' hL' hw' => hr2 w') ?_) | (refine CallP.mk _ inferInstance (fun w' L' hL' hw' => hr1 w') ?_) | (refine CallP.mk _ inferInstance (fun w' L' hL' hw' => hr2 w') ?_))) | ((with_reducible show CallP _ _ _ _ _ _ _ _); (first | (refine CallV.pure _ inferInstance (fun w' L' hL' hw' => hlp w' (hL'.row (i := 1000) rfl hw')) ?_) | (refine CallV.new inferInstance (fun w' L' hL' hw' => hlo w' (hL'.row (i := 1000) rfl hw')) ?_) | (refine CallV.new inferInstance (fun w' L' hL' hw' => hhi w' (hL'.row (i := 1000) rfl hw')) ?_) | (refine CallV.pure _ inferInstance (fun w' L' hL' hw' => hr1 w') ?_) | (refine CallV.pure _ inferInstance (fun w' L' hL' hw' => hr2 w') ?_) | (refine CallP.mk _ inferInstance (fun w' L' hL' hw' => hr1 w') ?_) | (refine CallP.mk _ inferInstance (fun w' L' hL' hw' => hr2 w') ?_))) | (with_reducible exact trivial) | (with_reducible exact fun _ _ => trivial) | ((with_reducible show Known _ _ _ _ _ _ _ _); (fail "not known")) | (fail "no more")))))
    (first | (refine FinV.t rfl ?_; omega) | (refine FinV.f rfl ?_; omega) | (refine FinV.pure ?_; rfl))
  · have hlo : ∀ w', RowAt w' p 10 l.length (gRow l) → New_ Try.prog 12 [.slice p l.length c1, .int .i64 a, .int .i64 b] (fun _ : Nat × Nat => True) (exV m xs) (exH xs) w' := fun w' r => rLeast_some r he h3
    have hhi : ∀ w', RowAt w' p 10 l.length (gRow l) → New_ Try.prog 14 [.slice p l.length c1, .int .i64 a, .int .i64 b] (fun _ : Nat × Nat => True) (exV n ys) (exH ys) w' := fun w' r => by
      have := rMost_some (a := a) (b := b) (c1 := c1) r he (v := -n) (by omega) h4
      rw [Int.neg_neg] at this; exact this
    unfold bndV
    rw [bndS_ok q1 q2]
    by_cases g : n < m
    · rw [if_pos g]
      (repeat' (first | ((with_reducible show drawB _ _ = true); kernel_rfl) | ((with_reducible show anyB _ = true); kernel_rfl) | ((with_reducible show _ = _); first | exact rfl | omega | assumption) | ((with_reducible show (_ : Int) ≤ _); first | omega | (exact bytes_leZ (by decide) (by omega) (by omega))) | ((with_reducible show (_ : Int) < _); omega) | ((with_reducible show (_ : Nat) ≤ _); first | omega | (simp only [addn]; omega) | (refine bytes_le (by decide) ?_; omega)) | ((with_reducible show (_ : Nat) < _); first | assumption | omega | (simp only [addn]; omega)) | (with_reducible exact trivial) | ((try (conv => whnf)); (first | (with_reducible refine And.intro ?_ ?_) | ((with_reducible show spl _ _); first | (refine spl_t (by first | omega | assumption | exact rfl) ?_) | (refine spl_f (by first | omega | assumption | (intro h; cases h; done)) ?_) | (refine spl_i (fun _ => ?_) (fun _ => ?_))) | ((with_reducible show spln _ _); first | (refine spln_t (by first | omega | assumption | exact rfl) ?_) | (refine spln_f (by first | omega | assumption | (intro h; cases h; done)) ?_) | (refine spln_i (fun _ => ?_) (fun _ => ?_))) | (with_reducible refine fun h : (_ : Int) = _ => absurd h (by omega)) | (with_reducible refine fun h : (_ : Nat) = _ => absurd h (by omega)) | (with_reducible intro _) | (with_reducible refine QuoV.pos (by omega) ?_) | (with_reducible refine RemV.pos (by omega) ?_) | ((with_reducible show IxV _ _); first | (refine IxV.nat _ rfl ?_) | (refine IxV.gen ?_)) | ((with_reducible show CallV _ _ _ _ _ _ _ _); (first | (refine CallV.pure _ inferInstance (fun w' L' hL' hw' => hlp w' (hL'.row (i := 1000) rfl hw')) ?_) | (refine CallV.new inferInstance (fun w' L' hL' hw' => hlo w' (hL'.row (i := 1000) rfl hw')) ?_) | (refine CallV.new inferInstance (fun w' L' hL' hw' => hhi w' (hL'.row (i := 1000) rfl hw')) ?_) | (refine CallV.pure _ inferInstance (fun w' L' hL' hw' => hr1 w') ?_) | (refine CallV.pure _ inferInstance (fun w' L' hL' hw' => hr2 w') ?_) | (refine CallP.mk _ inferInstance (fun w' L' hL' hw' => hr1 w') ?_) | (refine CallP.mk _ inferInstance (fun w' L' hL' hw' => hr2 w') ?_))) | ((with_reducible show CallP _ _ _ _ _ _ _ _); (first | (refine CallV.pure _ inferInstance (fun w' L' hL' hw' => hlp w' (hL'.row (i := 1000) rfl hw')) ?_) | (refine CallV.new inferInstance (fun w' L' hL' hw' => hlo w' (hL'.row (i := 1000) rfl hw')) ?_) | (refine CallV.new inferInstance (fun w' L' hL' hw' => hhi w' (hL'.row (i := 1000) rfl hw')) ?_) | (refine CallV.pure _ inferInstance (fun w' L' hL' hw' => hr1 w') ?_) | (refine CallV.pure _ inferInstance (fun w' L' hL' hw' => hr2 w') ?_) | (refine CallP.mk _ inferInstance (fun w' L' hL' hw' => hr1 w') ?_) | (refine CallP.mk _ inferInstance (fun w' L' hL' hw' => hr2 w') ?_))) | (with_reducible exact trivial) | (with_reducible exact fun _ _ => trivial) | ((with_reducible show Known _ _ _ _ _ _ _ _); (fail "not known")) | (fail "no more")))))
      (first | (refine FinV.t rfl ?_; omega) | (refine FinV.f rfl ?_; omega) | (refine FinV.pure ?_; rfl))
    · rw [if_neg g]
      (repeat' (first | ((with_reducible show drawB _ _ = true); kernel_rfl) | ((with_reducible show anyB _ = true); kernel_rfl) | ((with_reducible show _ = _); first | exact rfl | omega | assumption) | ((with_reducible show (_ : Int) ≤ _); first | omega | (exact bytes_leZ (by decide) (by omega) (by omega))) | ((with_reducible show (_ : Int) < _); omega) | ((with_reducible show (_ : Nat) ≤ _); first | omega | (simp only [addn]; omega) | (refine bytes_le (by decide) ?_; omega)) | ((with_reducible show (_ : Nat) < _); first | assumption | omega | (simp only [addn]; omega)) | (with_reducible exact trivial) | ((try (conv => whnf)); (first | (with_reducible refine And.intro ?_ ?_) | ((with_reducible show spl _ _); first | (refine spl_t (by first | omega | assumption | exact rfl) ?_) | (refine spl_f (by first | omega | assumption | (intro h; cases h; done)) ?_) | (refine spl_i (fun _ => ?_) (fun _ => ?_))) | ((with_reducible show spln _ _); first | (refine spln_t (by first | omega | assumption | exact rfl) ?_) | (refine spln_f (by first | omega | assumption | (intro h; cases h; done)) ?_) | (refine spln_i (fun _ => ?_) (fun _ => ?_))) | (with_reducible refine fun h : (_ : Int) = _ => absurd h (by omega)) | (with_reducible refine fun h : (_ : Nat) = _ => absurd h (by omega)) | (with_reducible intro _) | (with_reducible refine QuoV.pos (by omega) ?_) | (with_reducible refine RemV.pos (by omega) ?_) | ((with_reducible show IxV _ _); first | (refine IxV.nat _ rfl ?_) | (refine IxV.gen ?_)) | ((with_reducible show CallV _ _ _ _ _ _ _ _); (first | (refine CallV.pure _ inferInstance (fun w' L' hL' hw' => hlp w' (hL'.row (i := 1000) rfl hw')) ?_) | (refine CallV.new inferInstance (fun w' L' hL' hw' => hlo w' (hL'.row (i := 1000) rfl hw')) ?_) | (refine CallV.new inferInstance (fun w' L' hL' hw' => hhi w' (hL'.row (i := 1000) rfl hw')) ?_) | (refine CallV.pure _ inferInstance (fun w' L' hL' hw' => hr1 w') ?_) | (refine CallV.pure _ inferInstance (fun w' L' hL' hw' => hr2 w') ?_) | (refine CallP.mk _ inferInstance (fun w' L' hL' hw' => hr1 w') ?_) | (refine CallP.mk _ inferInstance (fun w' L' hL' hw' => hr2 w') ?_))) | ((with_reducible show CallP _ _ _ _ _ _ _ _); (first | (refine CallV.pure _ inferInstance (fun w' L' hL' hw' => hlp w' (hL'.row (i := 1000) rfl hw')) ?_) | (refine CallV.new inferInstance (fun w' L' hL' hw' => hlo w' (hL'.row (i := 1000) rfl hw')) ?_) | (refine CallV.new inferInstance (fun w' L' hL' hw' => hhi w' (hL'.row (i := 1000) rfl hw')) ?_) | (refine CallV.pure _ inferInstance (fun w' L' hL' hw' => hr1 w') ?_) | (refine CallV.pure _ inferInstance (fun w' L' hL' hw' => hr2 w') ?_) | (refine CallP.mk _ inferInstance (fun w' L' hL' hw' => hr1 w') ?_) | (refine CallP.mk _ inferInstance (fun w' L' hL' hw' => hr2 w') ?_))) | (with_reducible exact trivial) | (with_reducible exact fun _ _ => trivial) | ((with_reducible show Known _ _ _ _ _ _ _ _); (fail "not known")) | (fail "no more")))))
      (first | (refine FinV.t rfl ?_; omega) | (refine FinV.f rfl ?_; omega) | (refine FinV.pure ?_; rfl))
end
end Go.Proofs.Ytikaonfnaobciaa
