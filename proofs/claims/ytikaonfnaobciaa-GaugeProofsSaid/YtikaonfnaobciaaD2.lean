/- The reference's first: the best one of the chains that begin at a step. -/
import Derived.Test.YtikaonfnaobciaaD1
namespace Go.Proofs.Ytikaonfnaobciaa
open Go.RowKit
attribute [local irreducible] spl spln QuoV RemV AggEq CallV CallP LoopV RangeV RegionV FinV AgainV Known IxV
set_option maxRecDepth 100000
set_option linter.unusedVariables false
set_option linter.unusedSimpArgs false

abbrev Chs := List (Option (List Int))
def chL (cs : Chs) (j : Nat) : List Int := (cs.getD j none).getD []
def cRow (cp : Nat → Option Addr) (cl cc : Nat → Nat) : Nat → SV := fun j => .sl 99 (cp j) 1 none (cl j) (cc j)
/-- Chains that lie somewhere. -/
structure ChAt (w : World) (cs : Chs) (cp : Nat → Option Addr) (cl : Nat → Nat) : Prop where
  len : ∀ j, cl j = (chL cs j).length
  nil : ∀ j, cs.getD j none = none → cp j = none
  som : ∀ j xs, cs.getD j none = some xs → ¬ cp j = none
  at_ : ∀ j, RowAt w (cp j) 1 (chL cs j).length (iRow (chL cs j))
  sz : ∀ j, (chL cs j).length ≤ 1000
  pos : ∀ j xs, cs.getD j none = some xs → xs ≠ []

def betF (sm : List Int) (cs : Chs) (i m : Nat) : Bool := decide (sm.getD m 0 < sm.getD i 0) || (decide (sm.getD i 0 = sm.getD m 0) && befB (chL cs i) (chL cs m))
def frF (l : List Ga) (a : Int) (sm : List Int) (cs : Chs) : Nat → Option Nat
  | 0 => none
  | k + 1 => if (l.getD k ga0).f = a ∧ cs.getD k none ≠ none then
      match frF l a sm cs k with
      | none => some k
      | some m => if betF sm cs k m = true then some k else some m
    else frF l a sm cs k
theorem frF_spec {l : List Ga} {a : Int} {sm : List Int} {cs : Chs} : ∀ {k m : Nat}, frF l a sm cs k = some m → m < k ∧ (l.getD m ga0).f = a ∧ ∃ xs, cs.getD m none = some xs
  | 0, _, h => by cases h
  | k + 1, m, h => by
    simp only [frF] at h
    split at h
    · rename_i hc
      have hx : ∃ xs, cs.getD k none = some xs := by
        cases hq : cs.getD k none with
        | none => exact absurd hq hc.2
        | some xs => exact ⟨xs, rfl⟩
      split at h
      · simp at h; subst h; exact ⟨by omega, hc.1, hx⟩
      · rename_i m' hm
        have := frF_spec hm
        split at h
        · simp at h; subst h; exact ⟨by omega, hc.1, hx⟩
        · simp at h; subst h; exact ⟨by omega, this.2⟩
    · have := frF_spec h; exact ⟨by omega, this.2⟩
def mI (o : Option Nat) : Int := match o with | none => -1 | some m => m

/-- What is handed back: nothing, or a sum and a chain of the callee's own. -/
def resV (i : Nat) (r : Option (Int × List Int)) (x : Nat × Nat) : SV := match r with
  | none => .tup [.int .i64 0, .v (.slice none 0 0)]
  | some (s, xs) => .tup [.int .i64 s, .sl i (some ⟨x.1, 0, none⟩) 1 none xs.length x.2]
def resH (i : Nat) (r : Option (Int × List Int)) (x : Nat × Nat) : Heap := match r with
  | none => []
  | some (s, xs) => [(i, .row true (some ⟨x.1, 0, none⟩) 1 3 xs.length x.2 (iRow xs))]
def firstS (l : List Ga) (a : Int) (sm : List Int) (cs : Chs) : Option (Int × List Int) := (frF l a sm cs l.length).map fun m => (sm.getD m 0, chL cs m)

theorem first_any (p ps pc : Option Addr) (c1 c2 c3 : Nat) (l : List Ga) (a : Int) (sm : List Int) (cs : Chs) (cp : Nat → Option Addr) (cl cc : Nat → Nat) (w : World) (hl : l.length ≤ 1000)
    (h1 : RowAt w p 10 l.length (gRow l)) (h2 : RowAt w ps 1 l.length (iRow sm)) (h3 : RowAt w pc 1 l.length (cRow cp cl cc)) (hC : ChAt w cs cp cl) :
    New_ Try.prog 53 (SV.vals [.sl 1000 p 10 none l.length c1, .int .i64 a, .sl 1001 ps 1 none l.length c2, .sl 1002 pc 1 none l.length c3])
      (fun _ : Nat × Nat => True) (resV 74 (firstS l a sm cs)) (resH 74 (firstS l a sm cs)) w := by
  refine V.new (H := [(1000, .row false p 10 26 l.length c1 (gRow l)), (1001, .row false ps 1 3 l.length c2 (iRow sm)), (1002, .row false pc 1 29 l.length c3 (cRow cp cl cc))]) tab_ok mixed [(10, some [])] Try.func53 rfl Try.ntmps53 rfl rfl (.cons (.ext h1 (by simp)) (.cons (.ext h2 (by simp)) (.cons (.ext h3 (by simp)) .nil))) ?_
  (repeat' (first | ((with_reducible show drawB _ _ = true); kernel_rfl) | ((with_reducible show anyB _ = true); kernel_rfl) | ((with_reducible show _ = _); first | exact rfl | omega | assumption) | ((with_reducible show (_ : Int) ≤ _); first | omega | (exact bytes_leZ (by decide) (by omega) (by omega))) | ((with_reducible show (_ : Int) < _); omega) | ((with_reducible show (_ : Nat) ≤ _); first | omega | (simp only [addn]; omega) | (refine bytes_le (by decide) ?_; omega)) | ((with_reducible show (_ : Nat) < _); first | assumption | omega | (simp only [addn]; omega)) | (with_reducible exact trivial) | ((try (conv => whnf)); (first | (with_reducible refine And.intro ?_ ?_) | ((with_reducible show spl _ _); first | (refine spl_t (by first | omega | assumption | exact rfl) ?_) | (refine spl_f (by first | omega | assumption | (intro h; cases h; done)) ?_) | (refine spl_i (fun _ => ?_) (fun _ => ?_))) | ((with_reducible show spln _ _); first | (refine spln_t (by first | omega | assumption | exact rfl) ?_) | (refine spln_f (by first | omega | assumption | (intro h; cases h; done)) ?_) | (refine spln_i (fun _ => ?_) (fun _ => ?_))) | (with_reducible refine fun h : (_ : Int) = _ => absurd h (by omega)) | (with_reducible refine fun h : (_ : Nat) = _ => absurd h (by omega)) | (with_reducible intro _) | (with_reducible refine QuoV.pos (by omega) ?_) | (with_reducible refine RemV.pos (by omega) ?_) | ((with_reducible show IxV _ _); first | (refine IxV.nat _ rfl ?_) | (refine IxV.gen ?_)) | ((with_reducible show CallV _ _ _ _ _ _ _ _); (refine CallP.dec _ inferInstance (fun w' L' hL' hw' => hbef 0 w' hw'.kp) ?_)) | ((with_reducible show CallP _ _ _ _ _ _ _ _); (refine CallP.dec _ inferInstance (fun w' L' hL' hw' => hbef 0 w' hw'.kp) ?_)) | (with_reducible exact trivial) | (with_reducible exact fun _ _ => trivial) | ((with_reducible show Known _ _ _ _ _ _ _ _); (exact Known.mk fun w' L' hL' hw' => hkn w' hw'.kp)) | (refine Exists.intro (iRow (chL cs m)) ?_)))))
  refine LoopV.mk tab_ok mixed [(10, some [])] [0, 1, 2, 3] [1000, 1001, 1002] (fun k : Nat => [(10, .int .i64 (mI (frF l a sm cs k))), (11, .int .i64 k)]) (fun _ => []) (fun k => k ≤ l.length) (fun k => l.length - k) 0 ?_ ?_ ?_ ?_
  · omega
  · (repeat' (first | (exact trivial) | (exact rfl) | (refine And.intro ?_ ?_) | (exact fun _ _ => ⟨rfl, rfl⟩) | omega))
  · exact trivial
  refine And.intro rfl ?_
  intro k hk
  by_cases g0 : k < l.length
  · by_cases g1 : (l.getD k ga0).f = a
    · cases g2 : cs.getD k none with
      | none =>
        have g3 := hC.nil k g2
        have hs : frF l a sm cs (k + 1) = frF l a sm cs k := by rw [frF, if_neg (fun h => h.2 g2)]
        (repeat' (first | ((with_reducible show drawB _ _ = true); kernel_rfl) | ((with_reducible show anyB _ = true); kernel_rfl) | ((with_reducible show _ = _); first | exact rfl | omega | assumption) | ((with_reducible show (_ : Int) ≤ _); first | omega | (exact bytes_leZ (by decide) (by omega) (by omega))) | ((with_reducible show (_ : Int) < _); omega) | ((with_reducible show (_ : Nat) ≤ _); first | omega | (simp only [addn]; omega) | (refine bytes_le (by decide) ?_; omega)) | ((with_reducible show (_ : Nat) < _); first | assumption | omega | (simp only [addn]; omega)) | (with_reducible exact trivial) | ((try (conv => whnf)); (first | (with_reducible refine And.intro ?_ ?_) | ((with_reducible show spl _ _); first | (refine spl_t (by first | omega | assumption | exact rfl) ?_) | (refine spl_f (by first | omega | assumption | (intro h; cases h; done)) ?_) | (refine spl_i (fun _ => ?_) (fun _ => ?_))) | ((with_reducible show spln _ _); first | (refine spln_t (by first | omega | assumption | exact rfl) ?_) | (refine spln_f (by first | omega | assumption | (intro h; cases h; done)) ?_) | (refine spln_i (fun _ => ?_) (fun _ => ?_))) | (with_reducible refine fun h : (_ : Int) = _ => absurd h (by omega)) | (with_reducible refine fun h : (_ : Nat) = _ => absurd h (by omega)) | (with_reducible intro _) | (with_reducible refine QuoV.pos (by omega) ?_) | (with_reducible refine RemV.pos (by omega) ?_) | ((with_reducible show IxV _ _); first | (refine IxV.nat _ rfl ?_) | (refine IxV.gen ?_)) | ((with_reducible show CallV _ _ _ _ _ _ _ _); (refine CallP.dec _ inferInstance (fun w' L' hL' hw' => hbef 0 w' hw'.kp) ?_)) | ((with_reducible show CallP _ _ _ _ _ _ _ _); (refine CallP.dec _ inferInstance (fun w' L' hL' hw' => hbef 0 w' hw'.kp) ?_)) | (with_reducible exact trivial) | (with_reducible exact fun _ _ => trivial) | ((with_reducible show Known _ _ _ _ _ _ _ _); (exact Known.mk fun w' L' hL' hw' => hkn w' hw'.kp)) | (refine Exists.intro (iRow (chL cs m)) ?_)))))
        show AgainV _ _ _ _ _ _ _ _ _ _ _ _ _; refine AgainV.mk (k + 1) (by omega) (by omega) ?_ ?_ ?_ ?_ rfl
        · rw [hs]; (repeat' (first | (exact trivial) | (exact rfl) | (refine And.intro ?_ ?_) | (exact fun _ _ => ⟨rfl, rfl⟩) | omega))
        · (repeat' (first | (exact trivial) | (exact rfl) | (refine And.intro ?_ ?_) | (exact fun _ _ => ⟨rfl, rfl⟩) | omega))
        · (repeat' (first | (exact trivial) | (exact rfl) | (refine And.intro ?_ ?_) | (exact fun _ _ => ⟨rfl, rfl⟩) | omega))
        · (repeat' (first | (exact trivial) | (exact rfl) | (refine And.intro ?_ ?_) | (exact fun _ _ => ⟨rfl, rfl⟩) | omega))
      | some xs =>
        have g3 := hC.som k xs g2
        have hs : frF l a sm cs (k + 1) = match frF l a sm cs k with
          | none => some k
          | some m => if betF sm cs k m = true then some k else some m := by rw [frF, if_pos ⟨g1, by rw [g2]; simp⟩]
        cases g4 : frF l a sm cs k with
        | none =>
          rw [g4] at hs
          simp only at hs
          have g5 : mI none < 0 := by decide
          (repeat' (first | ((with_reducible show drawB _ _ = true); kernel_rfl) | ((with_reducible show anyB _ = true); kernel_rfl) | ((with_reducible show _ = _); first | exact rfl | omega | assumption) | ((with_reducible show (_ : Int) ≤ _); first | omega | (exact bytes_leZ (by decide) (by omega) (by omega))) | ((with_reducible show (_ : Int) < _); omega) | ((with_reducible show (_ : Nat) ≤ _); first | omega | (simp only [addn]; omega) | (refine bytes_le (by decide) ?_; omega)) | ((with_reducible show (_ : Nat) < _); first | assumption | omega | (simp only [addn]; omega)) | (with_reducible exact trivial) | ((try (conv => whnf)); (first | (with_reducible refine And.intro ?_ ?_) | ((with_reducible show spl _ _); first | (refine spl_t (by first | omega | assumption | exact rfl) ?_) | (refine spl_f (by first | omega | assumption | (intro h; cases h; done)) ?_) | (refine spl_i (fun _ => ?_) (fun _ => ?_))) | ((with_reducible show spln _ _); first | (refine spln_t (by first | omega | assumption | exact rfl) ?_) | (refine spln_f (by first | omega | assumption | (intro h; cases h; done)) ?_) | (refine spln_i (fun _ => ?_) (fun _ => ?_))) | (with_reducible refine fun h : (_ : Int) = _ => absurd h (by omega)) | (with_reducible refine fun h : (_ : Nat) = _ => absurd h (by omega)) | (with_reducible intro _) | (with_reducible refine QuoV.pos (by omega) ?_) | (with_reducible refine RemV.pos (by omega) ?_) | ((with_reducible show IxV _ _); first | (refine IxV.nat _ rfl ?_) | (refine IxV.gen ?_)) | ((with_reducible show CallV _ _ _ _ _ _ _ _); (refine CallP.dec _ inferInstance (fun w' L' hL' hw' => hbef 0 w' hw'.kp) ?_)) | ((with_reducible show CallP _ _ _ _ _ _ _ _); (refine CallP.dec _ inferInstance (fun w' L' hL' hw' => hbef 0 w' hw'.kp) ?_)) | (with_reducible exact trivial) | (with_reducible exact fun _ _ => trivial) | ((with_reducible show Known _ _ _ _ _ _ _ _); (exact Known.mk fun w' L' hL' hw' => hkn w' hw'.kp)) | (refine Exists.intro (iRow (chL cs m)) ?_)))))
          show AgainV _ _ _ _ _ _ _ _ _ _ _ _ _; refine AgainV.mk (k + 1) (by omega) (by omega) ?_ ?_ ?_ ?_ rfl
          · rw [hs]; (repeat' (first | (exact trivial) | (exact rfl) | (refine And.intro ?_ ?_) | (exact fun _ _ => ⟨rfl, rfl⟩) | omega))
          · (repeat' (first | (exact trivial) | (exact rfl) | (refine And.intro ?_ ?_) | (exact fun _ _ => ⟨rfl, rfl⟩) | omega))
          · (repeat' (first | (exact trivial) | (exact rfl) | (refine And.intro ?_ ?_) | (exact fun _ _ => ⟨rfl, rfl⟩) | omega))
          · (repeat' (first | (exact trivial) | (exact rfl) | (refine And.intro ?_ ?_) | (exact fun _ _ => ⟨rfl, rfl⟩) | omega))
        | some m =>
          rw [g4] at hs
          simp only at hs
          have hm := (frF_spec g4).1
          have g5 : mI (some m) = (m : Int) := rfl
          have hbef : ∀ _ : Nat, ∀ w', Kp [] w w' → Pure_ Try.prog 63 [.slice (cp k) (cl k) (cc k), .slice (cp m) (cl m) (cc m)] (.bool (decide (befB (chL cs k) (chL cs m) = true))) w' := fun _ w' hk' =>
            before_n _ _ _ _ _ _ w' (hC.len k) (hC.len m) ((hC.at_ k).kp hk' (by simp)) ((hC.at_ m).kp hk' (by simp)) (by have := hC.sz k; omega) (by have := hC.sz m; omega)
          rw [g5]
          by_cases b1 : sm.getD m 0 < sm.getD k 0
          · rw [if_pos (by unfold betF; rw [decide_eq_true b1]; rfl)] at hs
            (repeat' (first | ((with_reducible show drawB _ _ = true); kernel_rfl) | ((with_reducible show anyB _ = true); kernel_rfl) | ((with_reducible show _ = _); first | exact rfl | omega | assumption) | ((with_reducible show (_ : Int) ≤ _); first | omega | (exact bytes_leZ (by decide) (by omega) (by omega))) | ((with_reducible show (_ : Int) < _); omega) | ((with_reducible show (_ : Nat) ≤ _); first | omega | (simp only [addn]; omega) | (refine bytes_le (by decide) ?_; omega)) | ((with_reducible show (_ : Nat) < _); first | assumption | omega | (simp only [addn]; omega)) | (with_reducible exact trivial) | ((try (conv => whnf)); (first | (with_reducible refine And.intro ?_ ?_) | ((with_reducible show spl _ _); first | (refine spl_t (by first | omega | assumption | exact rfl) ?_) | (refine spl_f (by first | omega | assumption | (intro h; cases h; done)) ?_) | (refine spl_i (fun _ => ?_) (fun _ => ?_))) | ((with_reducible show spln _ _); first | (refine spln_t (by first | omega | assumption | exact rfl) ?_) | (refine spln_f (by first | omega | assumption | (intro h; cases h; done)) ?_) | (refine spln_i (fun _ => ?_) (fun _ => ?_))) | (with_reducible refine fun h : (_ : Int) = _ => absurd h (by omega)) | (with_reducible refine fun h : (_ : Nat) = _ => absurd h (by omega)) | (with_reducible intro _) | (with_reducible refine QuoV.pos (by omega) ?_) | (with_reducible refine RemV.pos (by omega) ?_) | ((with_reducible show IxV _ _); first | (refine IxV.nat _ rfl ?_) | (refine IxV.gen ?_)) | ((with_reducible show CallV _ _ _ _ _ _ _ _); (refine CallP.dec _ inferInstance (fun w' L' hL' hw' => hbef 0 w' hw'.kp) ?_)) | ((with_reducible show CallP _ _ _ _ _ _ _ _); (refine CallP.dec _ inferInstance (fun w' L' hL' hw' => hbef 0 w' hw'.kp) ?_)) | (with_reducible exact trivial) | (with_reducible exact fun _ _ => trivial) | ((with_reducible show Known _ _ _ _ _ _ _ _); (exact Known.mk fun w' L' hL' hw' => hkn w' hw'.kp)) | (refine Exists.intro (iRow (chL cs m)) ?_)))))
            show AgainV _ _ _ _ _ _ _ _ _ _ _ _ _; refine AgainV.mk (k + 1) (by omega) (by omega) ?_ ?_ ?_ ?_ rfl
            · rw [hs]; (repeat' (first | (exact trivial) | (exact rfl) | (refine And.intro ?_ ?_) | (exact fun _ _ => ⟨rfl, rfl⟩) | omega))
            · (repeat' (first | (exact trivial) | (exact rfl) | (refine And.intro ?_ ?_) | (exact fun _ _ => ⟨rfl, rfl⟩) | omega))
            · (repeat' (first | (exact trivial) | (exact rfl) | (refine And.intro ?_ ?_) | (exact fun _ _ => ⟨rfl, rfl⟩) | omega))
            · (repeat' (first | (exact trivial) | (exact rfl) | (refine And.intro ?_ ?_) | (exact fun _ _ => ⟨rfl, rfl⟩) | omega))
          · by_cases b2 : sm.getD k 0 = sm.getD m 0
            · by_cases b3 : befB (chL cs k) (chL cs m) = true
              · rw [if_pos (by unfold betF; rw [decide_eq_true b2, b3]; simp)] at hs
                (repeat' (first | ((with_reducible show drawB _ _ = true); kernel_rfl) | ((with_reducible show anyB _ = true); kernel_rfl) | ((with_reducible show _ = _); first | exact rfl | omega | assumption) | ((with_reducible show (_ : Int) ≤ _); first | omega | (exact bytes_leZ (by decide) (by omega) (by omega))) | ((with_reducible show (_ : Int) < _); omega) | ((with_reducible show (_ : Nat) ≤ _); first | omega | (simp only [addn]; omega) | (refine bytes_le (by decide) ?_; omega)) | ((with_reducible show (_ : Nat) < _); first | assumption | omega | (simp only [addn]; omega)) | (with_reducible exact trivial) | ((try (conv => whnf)); (first | (with_reducible refine And.intro ?_ ?_) | ((with_reducible show spl _ _); first | (refine spl_t (by first | omega | assumption | exact rfl) ?_) | (refine spl_f (by first | omega | assumption | (intro h; cases h; done)) ?_) | (refine spl_i (fun _ => ?_) (fun _ => ?_))) | ((with_reducible show spln _ _); first | (refine spln_t (by first | omega | assumption | exact rfl) ?_) | (refine spln_f (by first | omega | assumption | (intro h; cases h; done)) ?_) | (refine spln_i (fun _ => ?_) (fun _ => ?_))) | (with_reducible refine fun h : (_ : Int) = _ => absurd h (by omega)) | (with_reducible refine fun h : (_ : Nat) = _ => absurd h (by omega)) | (with_reducible intro _) | (with_reducible refine QuoV.pos (by omega) ?_) | (with_reducible refine RemV.pos (by omega) ?_) | ((with_reducible show IxV _ _); first | (refine IxV.nat _ rfl ?_) | (refine IxV.gen ?_)) | ((with_reducible show CallV _ _ _ _ _ _ _ _); (refine CallP.dec _ inferInstance (fun w' L' hL' hw' => hbef 0 w' hw'.kp) ?_)) | ((with_reducible show CallP _ _ _ _ _ _ _ _); (refine CallP.dec _ inferInstance (fun w' L' hL' hw' => hbef 0 w' hw'.kp) ?_)) | (with_reducible exact trivial) | (with_reducible exact fun _ _ => trivial) | ((with_reducible show Known _ _ _ _ _ _ _ _); (exact Known.mk fun w' L' hL' hw' => hkn w' hw'.kp)) | (refine Exists.intro (iRow (chL cs m)) ?_)))))
                show AgainV _ _ _ _ _ _ _ _ _ _ _ _ _; refine AgainV.mk (k + 1) (by omega) (by omega) ?_ ?_ ?_ ?_ rfl
                · rw [hs]; (repeat' (first | (exact trivial) | (exact rfl) | (refine And.intro ?_ ?_) | (exact fun _ _ => ⟨rfl, rfl⟩) | omega))
                · (repeat' (first | (exact trivial) | (exact rfl) | (refine And.intro ?_ ?_) | (exact fun _ _ => ⟨rfl, rfl⟩) | omega))
                · (repeat' (first | (exact trivial) | (exact rfl) | (refine And.intro ?_ ?_) | (exact fun _ _ => ⟨rfl, rfl⟩) | omega))
                · (repeat' (first | (exact trivial) | (exact rfl) | (refine And.intro ?_ ?_) | (exact fun _ _ => ⟨rfl, rfl⟩) | omega))
              · rw [if_neg (by unfold betF; rw [decide_eq_false b1, decide_eq_true b2]; simpa using b3)] at hs
                (repeat' (first | ((with_reducible show drawB _ _ = true); kernel_rfl) | ((with_reducible show anyB _ = true); kernel_rfl) | ((with_reducible show _ = _); first | exact rfl | omega | assumption) | ((with_reducible show (_ : Int) ≤ _); first | omega | (exact bytes_leZ (by decide) (by omega) (by omega))) | ((with_reducible show (_ : Int) < _); omega) | ((with_reducible show (_ : Nat) ≤ _); first | omega | (simp only [addn]; omega) | (refine bytes_le (by decide) ?_; omega)) | ((with_reducible show (_ : Nat) < _); first | assumption | omega | (simp only [addn]; omega)) | (with_reducible exact trivial) | ((try (conv => whnf)); (first | (with_reducible refine And.intro ?_ ?_) | ((with_reducible show spl _ _); first | (refine spl_t (by first | omega | assumption | exact rfl) ?_) | (refine spl_f (by first | omega | assumption | (intro h; cases h; done)) ?_) | (refine spl_i (fun _ => ?_) (fun _ => ?_))) | ((with_reducible show spln _ _); first | (refine spln_t (by first | omega | assumption | exact rfl) ?_) | (refine spln_f (by first | omega | assumption | (intro h; cases h; done)) ?_) | (refine spln_i (fun _ => ?_) (fun _ => ?_))) | (with_reducible refine fun h : (_ : Int) = _ => absurd h (by omega)) | (with_reducible refine fun h : (_ : Nat) = _ => absurd h (by omega)) | (with_reducible intro _) | (with_reducible refine QuoV.pos (by omega) ?_) | (with_reducible refine RemV.pos (by omega) ?_) | ((with_reducible show IxV _ _); first | (refine IxV.nat _ rfl ?_) | (refine IxV.gen ?_)) | ((with_reducible show CallV _ _ _ _ _ _ _ _); (refine CallP.dec _ inferInstance (fun w' L' hL' hw' => hbef 0 w' hw'.kp) ?_)) | ((with_reducible show CallP _ _ _ _ _ _ _ _); (refine CallP.dec _ inferInstance (fun w' L' hL' hw' => hbef 0 w' hw'.kp) ?_)) | (with_reducible exact trivial) | (with_reducible exact fun _ _ => trivial) | ((with_reducible show Known _ _ _ _ _ _ _ _); (exact Known.mk fun w' L' hL' hw' => hkn w' hw'.kp)) | (refine Exists.intro (iRow (chL cs m)) ?_)))))
                show AgainV _ _ _ _ _ _ _ _ _ _ _ _ _; refine AgainV.mk (k + 1) (by omega) (by omega) ?_ ?_ ?_ ?_ rfl
                · rw [hs]; (repeat' (first | (exact trivial) | (exact rfl) | (refine And.intro ?_ ?_) | (exact fun _ _ => ⟨rfl, rfl⟩) | omega))
                · (repeat' (first | (exact trivial) | (exact rfl) | (refine And.intro ?_ ?_) | (exact fun _ _ => ⟨rfl, rfl⟩) | omega))
                · (repeat' (first | (exact trivial) | (exact rfl) | (refine And.intro ?_ ?_) | (exact fun _ _ => ⟨rfl, rfl⟩) | omega))
                · (repeat' (first | (exact trivial) | (exact rfl) | (refine And.intro ?_ ?_) | (exact fun _ _ => ⟨rfl, rfl⟩) | omega))
            · rw [if_neg (by unfold betF; rw [decide_eq_false b1, decide_eq_false b2]; simp)] at hs
              (repeat' (first | ((with_reducible show drawB _ _ = true); kernel_rfl) | ((with_reducible show anyB _ = true); kernel_rfl) | ((with_reducible show _ = _); first | exact rfl | omega | assumption) | ((with_reducible show (_ : Int) ≤ _); first | omega | (exact bytes_leZ (by decide) (by omega) (by omega))) | ((with_reducible show (_ : Int) < _); omega) | ((with_reducible show (_ : Nat) ≤ _); first | omega | (simp only [addn]; omega) | (refine bytes_le (by decide) ?_; omega)) | ((with_reducible show (_ : Nat) < _); first | assumption | omega | (simp only [addn]; omega)) | (with_reducible exact trivial) | ((try (conv => whnf)); (first | (with_reducible refine And.intro ?_ ?_) | ((with_reducible show spl _ _); first | (refine spl_t (by first | omega | assumption | exact rfl) ?_) | (refine spl_f (by first | omega | assumption | (intro h; cases h; done)) ?_) | (refine spl_i (fun _ => ?_) (fun _ => ?_))) | ((with_reducible show spln _ _); first | (refine spln_t (by first | omega | assumption | exact rfl) ?_) | (refine spln_f (by first | omega | assumption | (intro h; cases h; done)) ?_) | (refine spln_i (fun _ => ?_) (fun _ => ?_))) | (with_reducible refine fun h : (_ : Int) = _ => absurd h (by omega)) | (with_reducible refine fun h : (_ : Nat) = _ => absurd h (by omega)) | (with_reducible intro _) | (with_reducible refine QuoV.pos (by omega) ?_) | (with_reducible refine RemV.pos (by omega) ?_) | ((with_reducible show IxV _ _); first | (refine IxV.nat _ rfl ?_) | (refine IxV.gen ?_)) | ((with_reducible show CallV _ _ _ _ _ _ _ _); (refine CallP.dec _ inferInstance (fun w' L' hL' hw' => hbef 0 w' hw'.kp) ?_)) | ((with_reducible show CallP _ _ _ _ _ _ _ _); (refine CallP.dec _ inferInstance (fun w' L' hL' hw' => hbef 0 w' hw'.kp) ?_)) | (with_reducible exact trivial) | (with_reducible exact fun _ _ => trivial) | ((with_reducible show Known _ _ _ _ _ _ _ _); (exact Known.mk fun w' L' hL' hw' => hkn w' hw'.kp)) | (refine Exists.intro (iRow (chL cs m)) ?_)))))
              show AgainV _ _ _ _ _ _ _ _ _ _ _ _ _; refine AgainV.mk (k + 1) (by omega) (by omega) ?_ ?_ ?_ ?_ rfl
              · rw [hs]; (repeat' (first | (exact trivial) | (exact rfl) | (refine And.intro ?_ ?_) | (exact fun _ _ => ⟨rfl, rfl⟩) | omega))
              · (repeat' (first | (exact trivial) | (exact rfl) | (refine And.intro ?_ ?_) | (exact fun _ _ => ⟨rfl, rfl⟩) | omega))
              · (repeat' (first | (exact trivial) | (exact rfl) | (refine And.intro ?_ ?_) | (exact fun _ _ => ⟨rfl, rfl⟩) | omega))
              · (repeat' (first | (exact trivial) | (exact rfl) | (refine And.intro ?_ ?_) | (exact fun _ _ => ⟨rfl, rfl⟩) | omega))
    · have hs : frF l a sm cs (k + 1) = frF l a sm cs k := by rw [frF, if_neg (fun h => g1 h.1)]
      (repeat' (first | ((with_reducible show drawB _ _ = true); kernel_rfl) | ((with_reducible show anyB _ = true); kernel_rfl) | ((with_reducible show _ = _); first | exact rfl | omega | assumption) | ((with_reducible show (_ : Int) ≤ _); first | omega | (exact bytes_leZ (by decide) (by omega) (by omega))) | ((with_reducible show (_ : Int) < _); omega) | ((with_reducible show (_ : Nat) ≤ _); first | omega | (simp only [addn]; omega) | (refine bytes_le (by decide) ?_; omega)) | ((with_reducible show (_ : Nat) < _); first | assumption | omega | (simp only [addn]; omega)) | (with_reducible exact trivial) | ((try (conv => whnf)); (first | (with_reducible refine And.intro ?_ ?_) | ((with_reducible show spl _ _); first | (refine spl_t (by first | omega | assumption | exact rfl) ?_) | (refine spl_f (by first | omega | assumption | (intro h; cases h; done)) ?_) | (refine spl_i (fun _ => ?_) (fun _ => ?_))) | ((with_reducible show spln _ _); first | (refine spln_t (by first | omega | assumption | exact rfl) ?_) | (refine spln_f (by first | omega | assumption | (intro h; cases h; done)) ?_) | (refine spln_i (fun _ => ?_) (fun _ => ?_))) | (with_reducible refine fun h : (_ : Int) = _ => absurd h (by omega)) | (with_reducible refine fun h : (_ : Nat) = _ => absurd h (by omega)) | (with_reducible intro _) | (with_reducible refine QuoV.pos (by omega) ?_) | (with_reducible refine RemV.pos (by omega) ?_) | ((with_reducible show IxV _ _); first | (refine IxV.nat _ rfl ?_) | (refine IxV.gen ?_)) | ((with_reducible show CallV _ _ _ _ _ _ _ _); (refine CallP.dec _ inferInstance (fun w' L' hL' hw' => hbef 0 w' hw'.kp) ?_)) | ((with_reducible show CallP _ _ _ _ _ _ _ _); (refine CallP.dec _ inferInstance (fun w' L' hL' hw' => hbef 0 w' hw'.kp) ?_)) | (with_reducible exact trivial) | (with_reducible exact fun _ _ => trivial) | ((with_reducible show Known _ _ _ _ _ _ _ _); (exact Known.mk fun w' L' hL' hw' => hkn w' hw'.kp)) | (refine Exists.intro (iRow (chL cs m)) ?_)))))
      show AgainV _ _ _ _ _ _ _ _ _ _ _ _ _; refine AgainV.mk (k + 1) (by omega) (by omega) ?_ ?_ ?_ ?_ rfl
      · rw [hs]; (repeat' (first | (exact trivial) | (exact rfl) | (refine And.intro ?_ ?_) | (exact fun _ _ => ⟨rfl, rfl⟩) | omega))
      · (repeat' (first | (exact trivial) | (exact rfl) | (refine And.intro ?_ ?_) | (exact fun _ _ => ⟨rfl, rfl⟩) | omega))
      · (repeat' (first | (exact trivial) | (exact rfl) | (refine And.intro ?_ ?_) | (exact fun _ _ => ⟨rfl, rfl⟩) | omega))
      · (repeat' (first | (exact trivial) | (exact rfl) | (refine And.intro ?_ ?_) | (exact fun _ _ => ⟨rfl, rfl⟩) | omega))
  · have hkl : k = l.length := by omega
    subst hkl
    cases g4 : frF l a sm cs l.length with
    | none =>
      have g5 : mI none < 0 := by decide
      have hf : firstS l a sm cs = none := by simp [firstS, g4]
      rw [hf]
      (repeat' (first | ((with_reducible show drawB _ _ = true); kernel_rfl) | ((with_reducible show anyB _ = true); kernel_rfl) | ((with_reducible show _ = _); first | exact rfl | omega | assumption) | ((with_reducible show (_ : Int) ≤ _); first | omega | (exact bytes_leZ (by decide) (by omega) (by omega))) | ((with_reducible show (_ : Int) < _); omega) | ((with_reducible show (_ : Nat) ≤ _); first | omega | (simp only [addn]; omega) | (refine bytes_le (by decide) ?_; omega)) | ((with_reducible show (_ : Nat) < _); first | assumption | omega | (simp only [addn]; omega)) | (with_reducible exact trivial) | ((try (conv => whnf)); (first | (with_reducible refine And.intro ?_ ?_) | ((with_reducible show spl _ _); first | (refine spl_t (by first | omega | assumption | exact rfl) ?_) | (refine spl_f (by first | omega | assumption | (intro h; cases h; done)) ?_) | (refine spl_i (fun _ => ?_) (fun _ => ?_))) | ((with_reducible show spln _ _); first | (refine spln_t (by first | omega | assumption | exact rfl) ?_) | (refine spln_f (by first | omega | assumption | (intro h; cases h; done)) ?_) | (refine spln_i (fun _ => ?_) (fun _ => ?_))) | (with_reducible refine fun h : (_ : Int) = _ => absurd h (by omega)) | (with_reducible refine fun h : (_ : Nat) = _ => absurd h (by omega)) | (with_reducible intro _) | (with_reducible refine QuoV.pos (by omega) ?_) | (with_reducible refine RemV.pos (by omega) ?_) | ((with_reducible show IxV _ _); first | (refine IxV.nat _ rfl ?_) | (refine IxV.gen ?_)) | ((with_reducible show CallV _ _ _ _ _ _ _ _); (refine CallP.dec _ inferInstance (fun w' L' hL' hw' => hbef 0 w' hw'.kp) ?_)) | ((with_reducible show CallP _ _ _ _ _ _ _ _); (refine CallP.dec _ inferInstance (fun w' L' hL' hw' => hbef 0 w' hw'.kp) ?_)) | (with_reducible exact trivial) | (with_reducible exact fun _ _ => trivial) | ((with_reducible show Known _ _ _ _ _ _ _ _); (exact Known.mk fun w' L' hL' hw' => hkn w' hw'.kp)) | (refine Exists.intro (iRow (chL cs m)) ?_)))))
      show FinV _ _ _ _ _
      exact FinV.new (0, 0) rfl trivial rfl rfl trivial
    | some m =>
      obtain ⟨hm, -, xs, hxs⟩ := frF_spec g4
      have g5 : mI (some m) = (m : Int) := rfl
      have hf : firstS l a sm cs = some (sm.getD m 0, chL cs m) := by simp [firstS, g4]
      have hkn : ∀ w', Kp [] w w' → RowAt w' (cp m) 1 (cl m) (iRow (chL cs m)) := fun w' hk' => by rw [hC.len m]; exact (hC.at_ m).kp hk' (by simp)
      have hp1 : 0 < cl m := by
        rw [hC.len m]
        have := hC.pos m xs hxs
        simp only [chL, hxs, Option.getD_some]
        exact List.length_pos_iff.2 this
      have hp2 : cl m ≤ 1000 := by rw [hC.len m]; exact hC.sz m
      rw [g5, hf]
      (repeat' (first | ((with_reducible show drawB _ _ = true); kernel_rfl) | ((with_reducible show anyB _ = true); kernel_rfl) | ((with_reducible show _ = _); first | exact rfl | omega | assumption) | ((with_reducible show (_ : Int) ≤ _); first | omega | (exact bytes_leZ (by decide) (by omega) (by omega))) | ((with_reducible show (_ : Int) < _); omega) | ((with_reducible show (_ : Nat) ≤ _); first | omega | (simp only [addn]; omega) | (refine bytes_le (by decide) ?_; omega)) | ((with_reducible show (_ : Nat) < _); first | assumption | omega | (simp only [addn]; omega)) | (with_reducible exact trivial) | ((try (conv => whnf)); (first | (with_reducible refine And.intro ?_ ?_) | ((with_reducible show spl _ _); first | (refine spl_t (by first | omega | assumption | exact rfl) ?_) | (refine spl_f (by first | omega | assumption | (intro h; cases h; done)) ?_) | (refine spl_i (fun _ => ?_) (fun _ => ?_))) | ((with_reducible show spln _ _); first | (refine spln_t (by first | omega | assumption | exact rfl) ?_) | (refine spln_f (by first | omega | assumption | (intro h; cases h; done)) ?_) | (refine spln_i (fun _ => ?_) (fun _ => ?_))) | (with_reducible refine fun h : (_ : Int) = _ => absurd h (by omega)) | (with_reducible refine fun h : (_ : Nat) = _ => absurd h (by omega)) | (with_reducible intro _) | (with_reducible refine QuoV.pos (by omega) ?_) | (with_reducible refine RemV.pos (by omega) ?_) | ((with_reducible show IxV _ _); first | (refine IxV.nat _ rfl ?_) | (refine IxV.gen ?_)) | ((with_reducible show CallV _ _ _ _ _ _ _ _); (refine CallP.dec _ inferInstance (fun w' L' hL' hw' => hbef 0 w' hw'.kp) ?_)) | ((with_reducible show CallP _ _ _ _ _ _ _ _); (refine CallP.dec _ inferInstance (fun w' L' hL' hw' => hbef 0 w' hw'.kp) ?_)) | (with_reducible exact trivial) | (with_reducible exact fun _ _ => trivial) | ((with_reducible show Known _ _ _ _ _ _ _ _); (exact Known.mk fun w' L' hL' hw' => hkn w' hw'.kp)) | (refine Exists.intro (iRow (chL cs m)) ?_)))))
      rename_i b c hc
      show FinV _ _ _ _ _
      refine FinV.new (b, c) ?_ trivial rfl rfl ?_
      · show SV.tup [_, SV.sl _ _ _ _ (0 + cl m) _] = SV.tup [_, SV.sl _ _ _ _ (chL cs m).length _]
        rw [Nat.zero_add, hC.len m]; rfl
      · refine ⟨⟨rfl, rfl, rfl, rfl, ?_, rfl, fun j hj => ?_⟩, trivial⟩
        · rw [← hC.len m]; omega
        · exact sameE.of (by simp [appF, addn])
end Go.Proofs.Ytikaonfnaobciaa
