/- A true drag is in all bounds: plain law; sums of numbers; the program's Has. -/
import Derived.Test.YtikaonfnaobciaaDw
import Derived.Test.YtikaonfnaobciaaC16
namespace Go.Proofs.Ytikaonfnaobciaa
open Go.RowKit
attribute [local irreducible] spl spln QuoV RemV AggEq CallV CallP LoopV RangeV RegionV FinV AgainV Known IxV
set_option maxRecDepth 100000
set_option linter.unusedVariables false
set_option linter.unusedSimpArgs false

def isum : List Int → Int
  | [] => 0
  | x :: r => x + isum r
theorem isum_append : ∀ (xs ys : List Int), isum (xs ++ ys) = isum xs + isum ys
  | [], ys => by simp [isum]
  | x :: xs, ys => by simp only [List.cons_append, isum, isum_append xs ys]; omega
theorem isum_bd : ∀ (xs : List Int), (∀ x ∈ xs, -1000000 ≤ x ∧ x ≤ 1000000) → -(1000000 * (xs.length : Int)) ≤ isum xs ∧ isum xs ≤ 1000000 * (xs.length : Int)
  | [], _ => by simp [isum]
  | x :: xs, h => by
    have h1 := h x (.head _)
    have h2 := isum_bd xs (fun y hy => h y (.tail _ hy))
    simp only [isum, List.length_cons]
    omega
def sumR (xs : List Int) (a b : Nat) : Int := isum ((xs.drop a).take (b - a))
theorem sumR_eq {xs : List Int} {a b : Nat} (h : a ≤ b) : sumR xs a b = isum (xs.take b) - isum (xs.take a) := by
  have e : xs.take b = xs.take a ++ (xs.drop a).take (b - a) := by
    rw [← List.take_add]; congr 1; omega
  rw [e, isum_append]; unfold sumR; omega
theorem isum_take {xs : List Int} {k : Nat} (h : k < xs.length) : isum (xs.take (k + 1)) = isum (xs.take k) + xs.getD k 0 := by
  rw [List.take_add_one, isum_append]
  simp [h, isum, List.getD_eq_getElem?_getD]

section
variable {l : List Ga} {a b : Int} {S : Int → Int}
theorem bestF_in {val : Ga → Int} {btr : Int → Int → Bool} {R : Int → Int → Prop} (hr : ∀ x, R x x) (ht : ∀ x y u v, R x y → R u v → R (x + u) (y + v)) (h : ∀ g ∈ l, R (val g) (S g.t - S g.f)) : ∀ (n : Nat) (step m : Int), bestF l b val btr n step = some m → R m (S b - S step)
  | 0, step, m, hm => by
    simp only [bestF] at hm
    split at hm
    · rename_i e; subst e; injection hm with hm; subst hm; rw [Int.sub_self]; exact hr 0
    · cases hm
  | n + 1, step, m, hm => by
    simp only [bestF] at hm
    split at hm
    · rename_i e; subst e; injection hm with hm; subst hm; rw [Int.sub_self]; exact hr 0
    · rcases fold_from l none hm with h0 | ⟨g, hg, hf, _, s, hs, hv⟩
      · cases h0
      · have h1 := bestF_in hr ht h n g.t s hs
        have h2 := ht _ _ _ _ (h g hg) h1
        rw [hv] at h2
        rw [hf] at h2
        rw [show S b - S step = S g.t - S step + (S b - S g.t) by omega]
        exact h2
theorem leS_best (h : (leS l a b).2.2 = 0) : bestS l b (fun g => g.lo) (fun x y => decide (y < x)) a = some (leS l a b).1 := by
  unfold leS extS at h ⊢
  split at h
  · rename_i h1; exact absurd h h1
  · rename_i h1
    rw [if_neg h1]
    cases hq : bestS l b (fun g => g.lo) (fun x y => decide (y < x)) a with
    | none => rw [hq] at h; cases h
    | some m => rfl
theorem moS_best (h : (moS l a b).2.2 = 0) : bestS l b (fun g => g.hi) (fun x y => decide (x < y)) a = some (moS l a b).1 := by
  unfold moS extS at h ⊢
  split at h
  · rename_i h1; exact absurd h h1
  · rename_i h1
    rw [if_neg h1]
    cases hq : bestS l b (fun g => g.hi) (fun x y => decide (x < y)) a with
    | none => rw [hq] at h; cases h
    | some m => rfl
theorem drag_law (h : ∀ g ∈ l, g.lo ≤ S g.t - S g.f ∧ S g.t - S g.f ≤ g.hi) : (bndS l a b).2 ≠ 10 ∧ ((bndS l a b).2 = 0 → (bndS l a b).1.1 ≤ S b - S a ∧ S b - S a ≤ (bndS l a b).1.2) := by
  by_cases he : (leS l a b).2.2 = 0
  · have he2 : (moS l a b).2.2 = 0 := by rw [← le_mo_err]; exact he
    have h1 := bestF_in (R := fun x y => x ≤ y) (fun x => Int.le_refl x) (fun x y u v h1 h2 => by omega) (fun g hg => (h g hg).1) _ _ _ (leS_best he)
    have h2 := bestF_in (R := fun x y => y ≤ x) (fun x => Int.le_refl x) (fun x y u v h1 h2 => by omega) (fun g hg => (h g hg).2) _ _ _ (moS_best he2)
    have hb : boS l a b = (((leS l a b).1, (moS l a b).1), (leS l a b).2.1, (moS l a b).2.1, (moS l a b).2.2) := by unfold boS; rw [if_pos he]
    unfold bndS
    rw [hb]
    simp only [he2, if_true]
    rw [if_neg (by omega)]
    exact ⟨by simp, fun _ => ⟨h1, h2⟩⟩
  · have hb : (boS l a b).2.2.2 = (leS l a b).2.2 := by unfold boS; rw [if_neg he]
    have h3 : (leS l a b).2.2 ≠ 10 := by
      unfold leS extS
      split
      · unfold strE; split
        · split <;> simp
        · simp
      · split <;> simp
    unfold bndS
    rw [hb, if_neg he]
    exact ⟨h3, fun h4 => absurd h4 he⟩
theorem bndS_codes (hok : okL l) (h1 : 0 ≤ a) (h2 : a < b) (h3 : b ≤ 1000000) (h10 : (bndS l a b).2 ≠ 10) : (bndS l a b).2 = 8 ∨ (bndS l a b).2 = 0 := by
  have hs : strE l a b = 0 := by unfold strE; rw [if_pos hok, if_neg (by omega)]
  have hle : (leS l a b).2.2 = 8 ∨ (leS l a b).2.2 = 0 := by
    unfold leS extS
    rw [if_neg (by omega)]
    split <;> simp
  have hmo := le_mo_err l a b
  rcases hle with he | he
  · left
    have hb : (boS l a b).2.2.2 = (leS l a b).2.2 := by unfold boS; rw [if_neg (by omega)]
    unfold bndS
    rw [hb, if_neg (by omega)]
    exact he
  · right
    have hb : (boS l a b).2.2.2 = 0 := by unfold boS; rw [if_pos he]; rw [he] at hmo; exact hmo.symm
    unfold bndS at h10 ⊢
    rw [if_pos hb] at h10 ⊢
    split
    · rename_i hc; rw [if_pos hc] at h10; exact absurd rfl h10
    · rfl
theorem wrIn_none {xs : List Int} (h : ∀ a b, (bndS l a b).2 ≠ 10) (a : Int) : wrIn l a xs = none := by
  induction xs with
  | nil => rfl
  | cons x xs ih => rw [wrIn, if_neg (fun hh => h _ _ hh.2), ih]
theorem wrS_none (h : ∀ a b, (bndS l a b).2 ≠ 10) : wrS l = none := by
  unfold wrS
  generalize (l.map (·.f)).mergeSort leI = xs
  induction xs with
  | nil => rfl
  | cons x xs ih => rw [wrOut, wrIn_none h, ih]
end

theorem RowAt.sub {w : World} {p : Option Addr} {n len a m : Nat} {f g : Nat → SV} (h : RowAt w p n len f) (ha : a + m ≤ len) (hg : ∀ j, j < m → g j = f (a + j)) : RowAt w (advp p n (some a)) n m g := fun j hj => by
  obtain ⟨h1, h2, h3⟩ := h (a + j) (by omega)
  rw [hg j hj]
  refine ⟨rfl, ?_, h3⟩
  show Cs w (pb p) (po p + a * n + j * n) _
  rw [show po p + a * n + j * n = po p + (a + j) * n by rw [Nat.add_mul]; omega]
  exact h2

attribute [local irreducible] Pure_
theorem sum_any (p : Option Addr) (c : Nat) (xs : List Int) (w : World) (hx : ∀ x ∈ xs, -1000000 ≤ x ∧ x ≤ 1000000) (hl : xs.length ≤ 1000) (h1 : RowAt w p 1 xs.length (iRow xs)) :
    Pure_ Try.prog 20 (SV.vals [.sl 1000 p 1 none xs.length c]) (SV.int .i64 (isum xs)).val w := by
  refine V.pure (H := [(1000, .row false p 1 3 xs.length c (iRow xs))]) tab_ok mixed [] Try.func20 rfl Try.ntmps20 rfl rfl (.cons (.ext h1 (by simp)) .nil) ?_
  (repeat' (first | ((with_reducible show drawB _ _ = true); kernel_rfl) | ((with_reducible show anyB _ = true); kernel_rfl) | ((with_reducible show _ = _); first | exact rfl | omega | assumption) | ((with_reducible show (_ : Int) ≤ _); first | omega | (exact bytes_leZ (by decide) (by omega) (by omega))) | ((with_reducible show (_ : Int) < _); omega) | ((with_reducible show (_ : Nat) ≤ _); first | omega | (simp only [addn]; omega) | (refine bytes_le (by decide) ?_; omega)) | ((with_reducible show (_ : Nat) < _); first | assumption | omega | (simp only [addn]; omega)) | (with_reducible exact trivial) | (first | (with_reducible refine And.intro ?_ ?_) | ((with_reducible show spl _ _); first | (refine spl_t (by first | omega | assumption | exact rfl) ?_) | (refine spl_f (by first | omega | assumption | (intro h; cases h; done)) ?_) | (refine spl_i (fun _ => ?_) (fun _ => ?_))) | ((with_reducible show spln _ _); first | (refine spln_t (by first | omega | assumption | exact rfl) ?_) | (refine spln_f (by first | omega | assumption | (intro h; cases h; done)) ?_) | (refine spln_i (fun _ => ?_) (fun _ => ?_))) | (with_reducible refine fun h : (_ : Int) = _ => absurd h (by omega)) | (with_reducible refine fun h : (_ : Nat) = _ => absurd h (by omega)) | (with_reducible intro _) | (with_reducible refine QuoV.pos (by omega) ?_) | (with_reducible refine RemV.pos (by omega) ?_) | ((with_reducible show IxV _ _); first | (refine IxV.nat _ rfl ?_) | (refine IxV.gen ?_)) | ((with_reducible show CallV _ _ _ _ _ _ _ _); (first | ((with_reducible show CallV _ _ _ _ _ _ _ _); first | (refine CallV.pure _ inferInstance (fun w' L' hL' hw' => hvld w') ?_) | (refine CallV.pure _ inferInstance (fun w' L' hL' hw' => htel w') ?_) | (refine CallV.dec _ inferInstance (fun w' L' hL' hw' => within_any _ _ _ w') ?_)) | ((with_reducible show CallP _ _ _ _ _ _ _ _); (refine CallP.dec _ inferInstance (fun w' L' hL' hw' => within_any _ _ _ w') ?_)))) | ((with_reducible show CallP _ _ _ _ _ _ _ _); (first | ((with_reducible show CallV _ _ _ _ _ _ _ _); first | (refine CallV.pure _ inferInstance (fun w' L' hL' hw' => hvld w') ?_) | (refine CallV.pure _ inferInstance (fun w' L' hL' hw' => htel w') ?_) | (refine CallV.dec _ inferInstance (fun w' L' hL' hw' => within_any _ _ _ w') ?_)) | ((with_reducible show CallP _ _ _ _ _ _ _ _); (refine CallP.dec _ inferInstance (fun w' L' hL' hw' => within_any _ _ _ w') ?_)))) | (with_reducible exact trivial) | (with_reducible exact fun _ _ => trivial) | ((with_reducible show Known _ _ _ _ _ _ _ _); (fail "not known")) | (fail "no more")) | ((conv => whnf); (first | (with_reducible refine And.intro ?_ ?_) | ((with_reducible show spl _ _); first | (refine spl_t (by first | omega | assumption | exact rfl) ?_) | (refine spl_f (by first | omega | assumption | (intro h; cases h; done)) ?_) | (refine spl_i (fun _ => ?_) (fun _ => ?_))) | ((with_reducible show spln _ _); first | (refine spln_t (by first | omega | assumption | exact rfl) ?_) | (refine spln_f (by first | omega | assumption | (intro h; cases h; done)) ?_) | (refine spln_i (fun _ => ?_) (fun _ => ?_))) | (with_reducible refine fun h : (_ : Int) = _ => absurd h (by omega)) | (with_reducible refine fun h : (_ : Nat) = _ => absurd h (by omega)) | (with_reducible intro _) | (with_reducible refine QuoV.pos (by omega) ?_) | (with_reducible refine RemV.pos (by omega) ?_) | ((with_reducible show IxV _ _); first | (refine IxV.nat _ rfl ?_) | (refine IxV.gen ?_)) | ((with_reducible show CallV _ _ _ _ _ _ _ _); (first | ((with_reducible show CallV _ _ _ _ _ _ _ _); first | (refine CallV.pure _ inferInstance (fun w' L' hL' hw' => hvld w') ?_) | (refine CallV.pure _ inferInstance (fun w' L' hL' hw' => htel w') ?_) | (refine CallV.dec _ inferInstance (fun w' L' hL' hw' => within_any _ _ _ w') ?_)) | ((with_reducible show CallP _ _ _ _ _ _ _ _); (refine CallP.dec _ inferInstance (fun w' L' hL' hw' => within_any _ _ _ w') ?_)))) | ((with_reducible show CallP _ _ _ _ _ _ _ _); (first | ((with_reducible show CallV _ _ _ _ _ _ _ _); first | (refine CallV.pure _ inferInstance (fun w' L' hL' hw' => hvld w') ?_) | (refine CallV.pure _ inferInstance (fun w' L' hL' hw' => htel w') ?_) | (refine CallV.dec _ inferInstance (fun w' L' hL' hw' => within_any _ _ _ w') ?_)) | ((with_reducible show CallP _ _ _ _ _ _ _ _); (refine CallP.dec _ inferInstance (fun w' L' hL' hw' => within_any _ _ _ w') ?_)))) | (with_reducible exact trivial) | (with_reducible exact fun _ _ => trivial) | ((with_reducible show Known _ _ _ _ _ _ _ _); (fail "not known")) | (fail "no more")))))
  refine LoopV.mk tab_ok mixed [] [0, 2] [1000] (fun k : Nat => [(3, .int .i64 (isum (xs.take k))), (4, .int .i64 k)]) (fun _ => []) (fun k => k ≤ xs.length) (fun k => xs.length - k) 0 ?_ ?_ ?_ ?_
  · omega
  · (repeat' (first | (exact trivial) | (exact rfl) | (refine And.intro ?_ ?_) | (exact fun _ _ => ⟨rfl, rfl⟩) | omega))
  · exact trivial
  refine And.intro rfl ?_
  intro k hk
  have hb := isum_bd (xs.take k) (fun x hx' => hx x (List.mem_of_mem_take hx'))
  rw [List.length_take] at hb
  have hb2 : -1000000000 ≤ isum (xs.take k) ∧ isum (xs.take k) ≤ 1000000000 := by omega
  by_cases hkn : k < xs.length
  · have hxk := hx (xs.getD k 0) (by rw [List.getD_eq_getElem?_getD, List.getElem?_eq_getElem hkn]; exact List.getElem_mem hkn)
    (repeat' (first | ((with_reducible show drawB _ _ = true); kernel_rfl) | ((with_reducible show anyB _ = true); kernel_rfl) | ((with_reducible show _ = _); first | exact rfl | omega | assumption) | ((with_reducible show (_ : Int) ≤ _); first | omega | (exact bytes_leZ (by decide) (by omega) (by omega))) | ((with_reducible show (_ : Int) < _); omega) | ((with_reducible show (_ : Nat) ≤ _); first | omega | (simp only [addn]; omega) | (refine bytes_le (by decide) ?_; omega)) | ((with_reducible show (_ : Nat) < _); first | assumption | omega | (simp only [addn]; omega)) | (with_reducible exact trivial) | (first | (with_reducible refine And.intro ?_ ?_) | ((with_reducible show spl _ _); first | (refine spl_t (by first | omega | assumption | exact rfl) ?_) | (refine spl_f (by first | omega | assumption | (intro h; cases h; done)) ?_) | (refine spl_i (fun _ => ?_) (fun _ => ?_))) | ((with_reducible show spln _ _); first | (refine spln_t (by first | omega | assumption | exact rfl) ?_) | (refine spln_f (by first | omega | assumption | (intro h; cases h; done)) ?_) | (refine spln_i (fun _ => ?_) (fun _ => ?_))) | (with_reducible refine fun h : (_ : Int) = _ => absurd h (by omega)) | (with_reducible refine fun h : (_ : Nat) = _ => absurd h (by omega)) | (with_reducible intro _) | (with_reducible refine QuoV.pos (by omega) ?_) | (with_reducible refine RemV.pos (by omega) ?_) | ((with_reducible show IxV _ _); first | (refine IxV.nat _ rfl ?_) | (refine IxV.gen ?_)) | ((with_reducible show CallV _ _ _ _ _ _ _ _); (first | ((with_reducible show CallV _ _ _ _ _ _ _ _); first | (refine CallV.pure _ inferInstance (fun w' L' hL' hw' => hvld w') ?_) | (refine CallV.pure _ inferInstance (fun w' L' hL' hw' => htel w') ?_) | (refine CallV.dec _ inferInstance (fun w' L' hL' hw' => within_any _ _ _ w') ?_)) | ((with_reducible show CallP _ _ _ _ _ _ _ _); (refine CallP.dec _ inferInstance (fun w' L' hL' hw' => within_any _ _ _ w') ?_)))) | ((with_reducible show CallP _ _ _ _ _ _ _ _); (first | ((with_reducible show CallV _ _ _ _ _ _ _ _); first | (refine CallV.pure _ inferInstance (fun w' L' hL' hw' => hvld w') ?_) | (refine CallV.pure _ inferInstance (fun w' L' hL' hw' => htel w') ?_) | (refine CallV.dec _ inferInstance (fun w' L' hL' hw' => within_any _ _ _ w') ?_)) | ((with_reducible show CallP _ _ _ _ _ _ _ _); (refine CallP.dec _ inferInstance (fun w' L' hL' hw' => within_any _ _ _ w') ?_)))) | (with_reducible exact trivial) | (with_reducible exact fun _ _ => trivial) | ((with_reducible show Known _ _ _ _ _ _ _ _); (fail "not known")) | (fail "no more")) | ((conv => whnf); (first | (with_reducible refine And.intro ?_ ?_) | ((with_reducible show spl _ _); first | (refine spl_t (by first | omega | assumption | exact rfl) ?_) | (refine spl_f (by first | omega | assumption | (intro h; cases h; done)) ?_) | (refine spl_i (fun _ => ?_) (fun _ => ?_))) | ((with_reducible show spln _ _); first | (refine spln_t (by first | omega | assumption | exact rfl) ?_) | (refine spln_f (by first | omega | assumption | (intro h; cases h; done)) ?_) | (refine spln_i (fun _ => ?_) (fun _ => ?_))) | (with_reducible refine fun h : (_ : Int) = _ => absurd h (by omega)) | (with_reducible refine fun h : (_ : Nat) = _ => absurd h (by omega)) | (with_reducible intro _) | (with_reducible refine QuoV.pos (by omega) ?_) | (with_reducible refine RemV.pos (by omega) ?_) | ((with_reducible show IxV _ _); first | (refine IxV.nat _ rfl ?_) | (refine IxV.gen ?_)) | ((with_reducible show CallV _ _ _ _ _ _ _ _); (first | ((with_reducible show CallV _ _ _ _ _ _ _ _); first | (refine CallV.pure _ inferInstance (fun w' L' hL' hw' => hvld w') ?_) | (refine CallV.pure _ inferInstance (fun w' L' hL' hw' => htel w') ?_) | (refine CallV.dec _ inferInstance (fun w' L' hL' hw' => within_any _ _ _ w') ?_)) | ((with_reducible show CallP _ _ _ _ _ _ _ _); (refine CallP.dec _ inferInstance (fun w' L' hL' hw' => within_any _ _ _ w') ?_)))) | ((with_reducible show CallP _ _ _ _ _ _ _ _); (first | ((with_reducible show CallV _ _ _ _ _ _ _ _); first | (refine CallV.pure _ inferInstance (fun w' L' hL' hw' => hvld w') ?_) | (refine CallV.pure _ inferInstance (fun w' L' hL' hw' => htel w') ?_) | (refine CallV.dec _ inferInstance (fun w' L' hL' hw' => within_any _ _ _ w') ?_)) | ((with_reducible show CallP _ _ _ _ _ _ _ _); (refine CallP.dec _ inferInstance (fun w' L' hL' hw' => within_any _ _ _ w') ?_)))) | (with_reducible exact trivial) | (with_reducible exact fun _ _ => trivial) | ((with_reducible show Known _ _ _ _ _ _ _ _); (fail "not known")) | (fail "no more")))))
    show AgainV _ _ _ _ _ _ _ _ _ _ _ _ _; refine AgainV.mk (k + 1) (by omega) (by omega) ?_ ?_ ?_ ?_ rfl
    · exact ⟨⟨rfl, isum_take hkn⟩, ⟨rfl, by omega⟩, trivial⟩
    · (repeat' (first | (exact trivial) | (exact rfl) | (refine And.intro ?_ ?_) | (exact fun _ _ => ⟨rfl, rfl⟩) | omega))
    · (repeat' (first | (exact trivial) | (exact rfl) | (refine And.intro ?_ ?_) | (exact fun _ _ => ⟨rfl, rfl⟩) | omega))
    · (repeat' (first | (exact trivial) | (exact rfl) | (refine And.intro ?_ ?_) | (exact fun _ _ => ⟨rfl, rfl⟩) | omega))
  · have : k = xs.length := by omega
    subst this
    (repeat' (first | ((with_reducible show drawB _ _ = true); kernel_rfl) | ((with_reducible show anyB _ = true); kernel_rfl) | ((with_reducible show _ = _); first | exact rfl | omega | assumption) | ((with_reducible show (_ : Int) ≤ _); first | omega | (exact bytes_leZ (by decide) (by omega) (by omega))) | ((with_reducible show (_ : Int) < _); omega) | ((with_reducible show (_ : Nat) ≤ _); first | omega | (simp only [addn]; omega) | (refine bytes_le (by decide) ?_; omega)) | ((with_reducible show (_ : Nat) < _); first | assumption | omega | (simp only [addn]; omega)) | (with_reducible exact trivial) | (first | (with_reducible refine And.intro ?_ ?_) | ((with_reducible show spl _ _); first | (refine spl_t (by first | omega | assumption | exact rfl) ?_) | (refine spl_f (by first | omega | assumption | (intro h; cases h; done)) ?_) | (refine spl_i (fun _ => ?_) (fun _ => ?_))) | ((with_reducible show spln _ _); first | (refine spln_t (by first | omega | assumption | exact rfl) ?_) | (refine spln_f (by first | omega | assumption | (intro h; cases h; done)) ?_) | (refine spln_i (fun _ => ?_) (fun _ => ?_))) | (with_reducible refine fun h : (_ : Int) = _ => absurd h (by omega)) | (with_reducible refine fun h : (_ : Nat) = _ => absurd h (by omega)) | (with_reducible intro _) | (with_reducible refine QuoV.pos (by omega) ?_) | (with_reducible refine RemV.pos (by omega) ?_) | ((with_reducible show IxV _ _); first | (refine IxV.nat _ rfl ?_) | (refine IxV.gen ?_)) | ((with_reducible show CallV _ _ _ _ _ _ _ _); (first | ((with_reducible show CallV _ _ _ _ _ _ _ _); first | (refine CallV.pure _ inferInstance (fun w' L' hL' hw' => hvld w') ?_) | (refine CallV.pure _ inferInstance (fun w' L' hL' hw' => htel w') ?_) | (refine CallV.dec _ inferInstance (fun w' L' hL' hw' => within_any _ _ _ w') ?_)) | ((with_reducible show CallP _ _ _ _ _ _ _ _); (refine CallP.dec _ inferInstance (fun w' L' hL' hw' => within_any _ _ _ w') ?_)))) | ((with_reducible show CallP _ _ _ _ _ _ _ _); (first | ((with_reducible show CallV _ _ _ _ _ _ _ _); first | (refine CallV.pure _ inferInstance (fun w' L' hL' hw' => hvld w') ?_) | (refine CallV.pure _ inferInstance (fun w' L' hL' hw' => htel w') ?_) | (refine CallV.dec _ inferInstance (fun w' L' hL' hw' => within_any _ _ _ w') ?_)) | ((with_reducible show CallP _ _ _ _ _ _ _ _); (refine CallP.dec _ inferInstance (fun w' L' hL' hw' => within_any _ _ _ w') ?_)))) | (with_reducible exact trivial) | (with_reducible exact fun _ _ => trivial) | ((with_reducible show Known _ _ _ _ _ _ _ _); (fail "not known")) | (fail "no more")) | ((conv => whnf); (first | (with_reducible refine And.intro ?_ ?_) | ((with_reducible show spl _ _); first | (refine spl_t (by first | omega | assumption | exact rfl) ?_) | (refine spl_f (by first | omega | assumption | (intro h; cases h; done)) ?_) | (refine spl_i (fun _ => ?_) (fun _ => ?_))) | ((with_reducible show spln _ _); first | (refine spln_t (by first | omega | assumption | exact rfl) ?_) | (refine spln_f (by first | omega | assumption | (intro h; cases h; done)) ?_) | (refine spln_i (fun _ => ?_) (fun _ => ?_))) | (with_reducible refine fun h : (_ : Int) = _ => absurd h (by omega)) | (with_reducible refine fun h : (_ : Nat) = _ => absurd h (by omega)) | (with_reducible intro _) | (with_reducible refine QuoV.pos (by omega) ?_) | (with_reducible refine RemV.pos (by omega) ?_) | ((with_reducible show IxV _ _); first | (refine IxV.nat _ rfl ?_) | (refine IxV.gen ?_)) | ((with_reducible show CallV _ _ _ _ _ _ _ _); (first | ((with_reducible show CallV _ _ _ _ _ _ _ _); first | (refine CallV.pure _ inferInstance (fun w' L' hL' hw' => hvld w') ?_) | (refine CallV.pure _ inferInstance (fun w' L' hL' hw' => htel w') ?_) | (refine CallV.dec _ inferInstance (fun w' L' hL' hw' => within_any _ _ _ w') ?_)) | ((with_reducible show CallP _ _ _ _ _ _ _ _); (refine CallP.dec _ inferInstance (fun w' L' hL' hw' => within_any _ _ _ w') ?_)))) | ((with_reducible show CallP _ _ _ _ _ _ _ _); (first | ((with_reducible show CallV _ _ _ _ _ _ _ _); first | (refine CallV.pure _ inferInstance (fun w' L' hL' hw' => hvld w') ?_) | (refine CallV.pure _ inferInstance (fun w' L' hL' hw' => htel w') ?_) | (refine CallV.dec _ inferInstance (fun w' L' hL' hw' => within_any _ _ _ w') ?_)) | ((with_reducible show CallP _ _ _ _ _ _ _ _); (refine CallP.dec _ inferInstance (fun w' L' hL' hw' => within_any _ _ _ w') ?_)))) | (with_reducible exact trivial) | (with_reducible exact fun _ _ => trivial) | ((with_reducible show Known _ _ _ _ _ _ _ _); (fail "not known")) | (fail "no more")))))
    show FinV _ _ _ _ _
    refine FinV.pure ?_
    rw [List.take_length]; rfl
theorem sumR_any (p : Option Addr) (c : Nat) (xs : List Int) (a b : Nat) (w : World) (hx : ∀ x ∈ xs, -1000000 ≤ x ∧ x ≤ 1000000) (hl : xs.length ≤ 1000) (hb : a ≤ b ∧ b ≤ xs.length) (h1 : RowAt w p 1 xs.length (iRow xs)) :
    Pure_ Try.prog 20 [.slice (advp p 1 (some a)) (b - a) c] (SV.int .i64 (sumR xs a b)).val w := by
  have hlen : ((xs.drop a).take (b - a)).length = b - a := by rw [List.length_take, List.length_drop]; omega
  have := sum_any (advp p 1 (some a)) c ((xs.drop a).take (b - a)) w (fun x h => hx x (List.mem_of_mem_drop (List.mem_of_mem_take h))) (by omega) (by
    rw [hlen]
    refine h1.sub (by omega) fun j hj => ?_
    simp only [iRow, List.getD_eq_getElem?_getD, List.getElem?_take_of_lt hj, List.getElem?_drop])
  rw [hlen] at this
  exact this
theorem Has_any (g : Ga) (n : Int) (hg : g.ok) (w : World) : Pure_ Try.prog 19 (SV.vals [g.sv, .int .i64 n]) (SV.tup [.bool (decide (g.lo ≤ n ∧ n ≤ g.hi)), .int .i64 0]).val w := by
  have hvld : ∀ w', Pure_ Try.prog 41 [g.agg] (SV.bool true).val w' := fun w' => by
    have := vvalid_any g w'
    rw [decide_eq_true hg] at this; exact this
  have htel : ∀ w', Pure_ Try.prog 31 [g.agg] (SV.agg [.int .i64 g.lo, .int .i64 g.hi]).val w' := fun w' => tells_any g hg w'
  refine V.pure tab_ok mixed [] Try.func19 rfl Try.ntmps19 rfl rfl .nil ?_
  by_cases h : g.lo ≤ n ∧ n ≤ g.hi
  · rw [decide_eq_true h]
    (repeat' (first | ((with_reducible show drawB _ _ = true); kernel_rfl) | ((with_reducible show anyB _ = true); kernel_rfl) | ((with_reducible show _ = _); first | exact rfl | omega | assumption) | ((with_reducible show (_ : Int) ≤ _); first | omega | (exact bytes_leZ (by decide) (by omega) (by omega))) | ((with_reducible show (_ : Int) < _); omega) | ((with_reducible show (_ : Nat) ≤ _); first | omega | (simp only [addn]; omega) | (refine bytes_le (by decide) ?_; omega)) | ((with_reducible show (_ : Nat) < _); first | assumption | omega | (simp only [addn]; omega)) | (with_reducible exact trivial) | (first | (with_reducible refine And.intro ?_ ?_) | ((with_reducible show spl _ _); first | (refine spl_t (by first | omega | assumption | exact rfl) ?_) | (refine spl_f (by first | omega | assumption | (intro h; cases h; done)) ?_) | (refine spl_i (fun _ => ?_) (fun _ => ?_))) | ((with_reducible show spln _ _); first | (refine spln_t (by first | omega | assumption | exact rfl) ?_) | (refine spln_f (by first | omega | assumption | (intro h; cases h; done)) ?_) | (refine spln_i (fun _ => ?_) (fun _ => ?_))) | (with_reducible refine fun h : (_ : Int) = _ => absurd h (by omega)) | (with_reducible refine fun h : (_ : Nat) = _ => absurd h (by omega)) | (with_reducible intro _) | (with_reducible refine QuoV.pos (by omega) ?_) | (with_reducible refine RemV.pos (by omega) ?_) | ((with_reducible show IxV _ _); first | (refine IxV.nat _ rfl ?_) | (refine IxV.gen ?_)) | ((with_reducible show CallV _ _ _ _ _ _ _ _); (first | ((with_reducible show CallV _ _ _ _ _ _ _ _); first | (refine CallV.pure _ inferInstance (fun w' L' hL' hw' => hvld w') ?_) | (refine CallV.pure _ inferInstance (fun w' L' hL' hw' => htel w') ?_) | (refine CallV.dec _ inferInstance (fun w' L' hL' hw' => within_any _ _ _ w') ?_)) | ((with_reducible show CallP _ _ _ _ _ _ _ _); (refine CallP.dec _ inferInstance (fun w' L' hL' hw' => within_any _ _ _ w') ?_)))) | ((with_reducible show CallP _ _ _ _ _ _ _ _); (first | ((with_reducible show CallV _ _ _ _ _ _ _ _); first | (refine CallV.pure _ inferInstance (fun w' L' hL' hw' => hvld w') ?_) | (refine CallV.pure _ inferInstance (fun w' L' hL' hw' => htel w') ?_) | (refine CallV.dec _ inferInstance (fun w' L' hL' hw' => within_any _ _ _ w') ?_)) | ((with_reducible show CallP _ _ _ _ _ _ _ _); (refine CallP.dec _ inferInstance (fun w' L' hL' hw' => within_any _ _ _ w') ?_)))) | (with_reducible exact trivial) | (with_reducible exact fun _ _ => trivial) | ((with_reducible show Known _ _ _ _ _ _ _ _); (fail "not known")) | (fail "no more")) | ((conv => whnf); (first | (with_reducible refine And.intro ?_ ?_) | ((with_reducible show spl _ _); first | (refine spl_t (by first | omega | assumption | exact rfl) ?_) | (refine spl_f (by first | omega | assumption | (intro h; cases h; done)) ?_) | (refine spl_i (fun _ => ?_) (fun _ => ?_))) | ((with_reducible show spln _ _); first | (refine spln_t (by first | omega | assumption | exact rfl) ?_) | (refine spln_f (by first | omega | assumption | (intro h; cases h; done)) ?_) | (refine spln_i (fun _ => ?_) (fun _ => ?_))) | (with_reducible refine fun h : (_ : Int) = _ => absurd h (by omega)) | (with_reducible refine fun h : (_ : Nat) = _ => absurd h (by omega)) | (with_reducible intro _) | (with_reducible refine QuoV.pos (by omega) ?_) | (with_reducible refine RemV.pos (by omega) ?_) | ((with_reducible show IxV _ _); first | (refine IxV.nat _ rfl ?_) | (refine IxV.gen ?_)) | ((with_reducible show CallV _ _ _ _ _ _ _ _); (first | ((with_reducible show CallV _ _ _ _ _ _ _ _); first | (refine CallV.pure _ inferInstance (fun w' L' hL' hw' => hvld w') ?_) | (refine CallV.pure _ inferInstance (fun w' L' hL' hw' => htel w') ?_) | (refine CallV.dec _ inferInstance (fun w' L' hL' hw' => within_any _ _ _ w') ?_)) | ((with_reducible show CallP _ _ _ _ _ _ _ _); (refine CallP.dec _ inferInstance (fun w' L' hL' hw' => within_any _ _ _ w') ?_)))) | ((with_reducible show CallP _ _ _ _ _ _ _ _); (first | ((with_reducible show CallV _ _ _ _ _ _ _ _); first | (refine CallV.pure _ inferInstance (fun w' L' hL' hw' => hvld w') ?_) | (refine CallV.pure _ inferInstance (fun w' L' hL' hw' => htel w') ?_) | (refine CallV.dec _ inferInstance (fun w' L' hL' hw' => within_any _ _ _ w') ?_)) | ((with_reducible show CallP _ _ _ _ _ _ _ _); (refine CallP.dec _ inferInstance (fun w' L' hL' hw' => within_any _ _ _ w') ?_)))) | (with_reducible exact trivial) | (with_reducible exact fun _ _ => trivial) | ((with_reducible show Known _ _ _ _ _ _ _ _); (fail "not known")) | (fail "no more")))))
    (first | (refine FinV.t rfl ?_; omega) | (refine FinV.f rfl ?_; omega) | (refine FinV.pure ?_; rfl))
  · rw [decide_eq_false h]
    (repeat' (first | ((with_reducible show drawB _ _ = true); kernel_rfl) | ((with_reducible show anyB _ = true); kernel_rfl) | ((with_reducible show _ = _); first | exact rfl | omega | assumption) | ((with_reducible show (_ : Int) ≤ _); first | omega | (exact bytes_leZ (by decide) (by omega) (by omega))) | ((with_reducible show (_ : Int) < _); omega) | ((with_reducible show (_ : Nat) ≤ _); first | omega | (simp only [addn]; omega) | (refine bytes_le (by decide) ?_; omega)) | ((with_reducible show (_ : Nat) < _); first | assumption | omega | (simp only [addn]; omega)) | (with_reducible exact trivial) | (first | (with_reducible refine And.intro ?_ ?_) | ((with_reducible show spl _ _); first | (refine spl_t (by first | omega | assumption | exact rfl) ?_) | (refine spl_f (by first | omega | assumption | (intro h; cases h; done)) ?_) | (refine spl_i (fun _ => ?_) (fun _ => ?_))) | ((with_reducible show spln _ _); first | (refine spln_t (by first | omega | assumption | exact rfl) ?_) | (refine spln_f (by first | omega | assumption | (intro h; cases h; done)) ?_) | (refine spln_i (fun _ => ?_) (fun _ => ?_))) | (with_reducible refine fun h : (_ : Int) = _ => absurd h (by omega)) | (with_reducible refine fun h : (_ : Nat) = _ => absurd h (by omega)) | (with_reducible intro _) | (with_reducible refine QuoV.pos (by omega) ?_) | (with_reducible refine RemV.pos (by omega) ?_) | ((with_reducible show IxV _ _); first | (refine IxV.nat _ rfl ?_) | (refine IxV.gen ?_)) | ((with_reducible show CallV _ _ _ _ _ _ _ _); (first | ((with_reducible show CallV _ _ _ _ _ _ _ _); first | (refine CallV.pure _ inferInstance (fun w' L' hL' hw' => hvld w') ?_) | (refine CallV.pure _ inferInstance (fun w' L' hL' hw' => htel w') ?_) | (refine CallV.dec _ inferInstance (fun w' L' hL' hw' => within_any _ _ _ w') ?_)) | ((with_reducible show CallP _ _ _ _ _ _ _ _); (refine CallP.dec _ inferInstance (fun w' L' hL' hw' => within_any _ _ _ w') ?_)))) | ((with_reducible show CallP _ _ _ _ _ _ _ _); (first | ((with_reducible show CallV _ _ _ _ _ _ _ _); first | (refine CallV.pure _ inferInstance (fun w' L' hL' hw' => hvld w') ?_) | (refine CallV.pure _ inferInstance (fun w' L' hL' hw' => htel w') ?_) | (refine CallV.dec _ inferInstance (fun w' L' hL' hw' => within_any _ _ _ w') ?_)) | ((with_reducible show CallP _ _ _ _ _ _ _ _); (refine CallP.dec _ inferInstance (fun w' L' hL' hw' => within_any _ _ _ w') ?_)))) | (with_reducible exact trivial) | (with_reducible exact fun _ _ => trivial) | ((with_reducible show Known _ _ _ _ _ _ _ _); (fail "not known")) | (fail "no more")) | ((conv => whnf); (first | (with_reducible refine And.intro ?_ ?_) | ((with_reducible show spl _ _); first | (refine spl_t (by first | omega | assumption | exact rfl) ?_) | (refine spl_f (by first | omega | assumption | (intro h; cases h; done)) ?_) | (refine spl_i (fun _ => ?_) (fun _ => ?_))) | ((with_reducible show spln _ _); first | (refine spln_t (by first | omega | assumption | exact rfl) ?_) | (refine spln_f (by first | omega | assumption | (intro h; cases h; done)) ?_) | (refine spln_i (fun _ => ?_) (fun _ => ?_))) | (with_reducible refine fun h : (_ : Int) = _ => absurd h (by omega)) | (with_reducible refine fun h : (_ : Nat) = _ => absurd h (by omega)) | (with_reducible intro _) | (with_reducible refine QuoV.pos (by omega) ?_) | (with_reducible refine RemV.pos (by omega) ?_) | ((with_reducible show IxV _ _); first | (refine IxV.nat _ rfl ?_) | (refine IxV.gen ?_)) | ((with_reducible show CallV _ _ _ _ _ _ _ _); (first | ((with_reducible show CallV _ _ _ _ _ _ _ _); first | (refine CallV.pure _ inferInstance (fun w' L' hL' hw' => hvld w') ?_) | (refine CallV.pure _ inferInstance (fun w' L' hL' hw' => htel w') ?_) | (refine CallV.dec _ inferInstance (fun w' L' hL' hw' => within_any _ _ _ w') ?_)) | ((with_reducible show CallP _ _ _ _ _ _ _ _); (refine CallP.dec _ inferInstance (fun w' L' hL' hw' => within_any _ _ _ w') ?_)))) | ((with_reducible show CallP _ _ _ _ _ _ _ _); (first | ((with_reducible show CallV _ _ _ _ _ _ _ _); first | (refine CallV.pure _ inferInstance (fun w' L' hL' hw' => hvld w') ?_) | (refine CallV.pure _ inferInstance (fun w' L' hL' hw' => htel w') ?_) | (refine CallV.dec _ inferInstance (fun w' L' hL' hw' => within_any _ _ _ w') ?_)) | ((with_reducible show CallP _ _ _ _ _ _ _ _); (refine CallP.dec _ inferInstance (fun w' L' hL' hw' => within_any _ _ _ w') ?_)))) | (with_reducible exact trivial) | (with_reducible exact fun _ _ => trivial) | ((with_reducible show Known _ _ _ _ _ _ _ _); (fail "not known")) | (fail "no more")))))
    (first | (refine FinV.t rfl ?_; omega) | (refine FinV.f rfl ?_; omega) | (refine FinV.pure ?_; rfl))
end Go.Proofs.Ytikaonfnaobciaa
