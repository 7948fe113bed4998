/- The reference's Wrong: the walk; both find the least. -/
import Derived.Test.YtikaonfnaobciaaDw
import Derived.Test.YtikaonfnaobciaaD6
namespace Go.Proofs.Ytikaonfnaobciaa
open Go.RowKit
attribute [local irreducible] spl spln QuoV RemV AggEq CallV CallP LoopV RangeV RegionV FinV AgainV Known IxV
set_option maxRecDepth 100000
set_option linter.unusedVariables false
set_option linter.unusedSimpArgs false

def lexlt (m x : Int × Int) : Prop := m.1 < x.1 ∨ (m.1 = x.1 ∧ m.2 < x.2)
def goodP (l : List Ga) (x : Int × Int) : Prop := x.1 < x.2 ∧ (bndS l x.1 x.2).2 = 10
def newW (o : Option (Int × Int)) (x : Int × Int) : Prop := match o with | none => True | some m => lexlt x m
instance (m x : Int × Int) : Decidable (lexlt m x) := inferInstanceAs (Decidable (_ ∨ _))
instance (l : List Ga) (x : Int × Int) : Decidable (goodP l x) := inferInstanceAs (Decidable (_ ∧ _))
instance (o : Option (Int × Int)) (x : Int × Int) : Decidable (newW o x) := match o with | none => isTrue trivial | some m => inferInstanceAs (Decidable (lexlt x m))
def stepW (l : List Ga) (f : Int) (o : Option (Int × Int)) (t : Int) : Option (Int × Int) := if goodP l (f, t) ∧ newW o (f, t) then some (f, t) else o
def wIn (l : List Ga) (f : Int) (o : Option (Int × Int)) : List Int → Option (Int × Int)
  | [] => o
  | t :: r => wIn l f (stepW l f o t) r
def wOut (l : List Ga) (ts : List Int) (o : Option (Int × Int)) : List Int → Option (Int × Int)
  | [] => o
  | f :: r => wOut l ts (wIn l f o ts) r
def IsMin (P : Int × Int → Prop) (o : Option (Int × Int)) : Prop := match o with
  | none => ∀ x, ¬ P x
  | some m => P m ∧ ∀ x, P x → m = x ∨ lexlt m x
theorem IsMin.iff {P Q : Int × Int → Prop} {o : Option (Int × Int)} (h : IsMin P o) (e : ∀ x, P x ↔ Q x) : IsMin Q o := by
  have : P = Q := funext fun x => propext (e x)
  rw [← this]; exact h
theorem IsMin.uniq {P : Int × Int → Prop} {o o' : Option (Int × Int)} (h : IsMin P o) (h' : IsMin P o') : o = o' := by
  cases o with
  | none =>
    cases o' with
    | none => rfl
    | some m => exact absurd h'.1 (h m)
  | some m =>
    cases o' with
    | none => exact absurd h.1 (h' m)
    | some m' =>
      rcases h.2 m' h'.1 with e | e
      · rw [e]
      · rcases h'.2 m h.1 with e' | e'
        · rw [e']
        · unfold lexlt at e e'; omega
theorem stepW_min {l : List Ga} {f t : Int} {P : Int × Int → Prop} {o : Option (Int × Int)} (h : IsMin P o) : IsMin (fun x => P x ∨ (x = (f, t) ∧ goodP l x)) (stepW l f o t) := by
  unfold stepW
  by_cases hc : goodP l (f, t) ∧ newW o (f, t)
  · rw [if_pos hc]
    refine ⟨.inr ⟨rfl, hc.1⟩, fun x hx => ?_⟩
    rcases hx with hx | ⟨rfl, _⟩
    · cases o with
      | none => exact absurd hx (h x)
      | some m =>
        right
        have h1 : lexlt (f, t) m := hc.2
        rcases h.2 x hx with e | e
        · rw [← e]; exact h1
        · unfold lexlt at *; omega
    · exact .inl rfl
  · rw [if_neg hc]
    cases o with
    | none =>
      intro x hx
      rcases hx with hx | ⟨rfl, hx⟩
      · exact h x hx
      · exact hc ⟨hx, trivial⟩
    | some m =>
      refine ⟨.inl h.1, fun x hx => ?_⟩
      rcases hx with hx | ⟨rfl, hx⟩
      · exact h.2 x hx
      · by_cases hl : lexlt (f, t) m
        · exact absurd ⟨hx, hl⟩ hc
        · obtain ⟨m1, m2⟩ := m
          unfold lexlt at hl ⊢
          simp only [Prod.mk.injEq] at hl ⊢
          omega
theorem wIn_min {l : List Ga} {f : Int} : ∀ (ts : List Int) {P : Int × Int → Prop} {o : Option (Int × Int)}, IsMin P o → IsMin (fun x => P x ∨ (x.1 = f ∧ x.2 ∈ ts ∧ goodP l x)) (wIn l f o ts)
  | [], P, o, h => h.iff fun x => by simp
  | t :: r, P, o, h => (wIn_min r (stepW_min (l := l) (f := f) (t := t) h)).iff fun x => by
    obtain ⟨x1, x2⟩ := x
    simp only [List.mem_cons, Prod.mk.injEq]
    constructor
    · rintro ((h | ⟨⟨rfl, rfl⟩, h⟩) | ⟨h1, h2, h3⟩)
      · exact .inl h
      · exact .inr ⟨rfl, .inl rfl, h⟩
      · exact .inr ⟨h1, .inr h2, h3⟩
    · rintro (h | ⟨h1, h2 | h2, h3⟩)
      · exact .inl (.inl h)
      · exact .inl (.inr ⟨⟨h1, h2⟩, h3⟩)
      · exact .inr ⟨h1, h2, h3⟩
theorem wOut_min {l : List Ga} {ts : List Int} : ∀ (fs : List Int) {P : Int × Int → Prop} {o : Option (Int × Int)}, IsMin P o → IsMin (fun x => P x ∨ (x.1 ∈ fs ∧ x.2 ∈ ts ∧ goodP l x)) (wOut l ts o fs)
  | [], P, o, h => h.iff fun x => by simp
  | f :: r, P, o, h => (wOut_min r (wIn_min (l := l) (f := f) ts h)).iff fun x => by
    obtain ⟨x1, x2⟩ := x
    simp only [List.mem_cons]
    constructor
    · rintro ((h | ⟨h1, h2, h3⟩) | ⟨h1, h2, h3⟩)
      · exact .inl h
      · exact .inr ⟨.inl h1, h2, h3⟩
      · exact .inr ⟨.inr h1, h2, h3⟩
    · rintro (h | ⟨h1 | h1, h2, h3⟩)
      · exact .inl (.inl h)
      · exact .inl (.inr ⟨h1, h2, h3⟩)
      · exact .inr ⟨h1, h2, h3⟩
theorem wrIn_min {l : List Ga} {a : Int} : ∀ (ts : List Int), ts.Pairwise (fun x y => leI x y = true) → IsMin (fun x => x.1 = a ∧ x.2 ∈ ts ∧ goodP l x) (wrIn l a ts)
  | [], _ => fun x h => by simp at h
  | t :: r, hs => by
    have ih := wrIn_min (l := l) (a := a) r (List.pairwise_cons.1 hs).2
    have hle : ∀ y ∈ r, t ≤ y := fun y hy => by have := (List.pairwise_cons.1 hs).1 y hy; simpa [leI] using this
    rw [wrIn]
    by_cases hc : a < t ∧ (bndS l a t).2 = 10
    · rw [if_pos hc]
      refine ⟨⟨rfl, by simp, hc⟩, fun x ⟨h1, h2, h3⟩ => ?_⟩
      obtain ⟨x1, x2⟩ := x
      simp only [List.mem_cons] at h1 h2
      subst h1
      rcases h2 with h2 | h2
      · exact .inl (by rw [h2])
      · have := hle _ h2
        by_cases e : t = x2
        · exact .inl (by rw [e])
        · exact .inr (.inr ⟨rfl, by dsimp only; omega⟩)
    · rw [if_neg hc]
      refine ih.iff fun x => ?_
      obtain ⟨x1, x2⟩ := x
      simp only [List.mem_cons]
      constructor
      · rintro ⟨h1, h2, h3⟩; exact ⟨h1, .inr h2, h3⟩
      · rintro ⟨h1, h2 | h2, h3⟩
        · subst h1; subst h2; exact absurd h3 hc
        · exact ⟨h1, h2, h3⟩
theorem wrOut_min {l : List Ga} {ts : List Int} (ht : ts.Pairwise (fun x y => leI x y = true)) : ∀ (fs : List Int), fs.Pairwise (fun x y => leI x y = true) → IsMin (fun x => x.1 ∈ fs ∧ x.2 ∈ ts ∧ goodP l x) (wrOut l ts fs)
  | [], _ => fun x h => by simp at h
  | f :: r, hs => by
    have ih := wrOut_min (l := l) ht r (List.pairwise_cons.1 hs).2
    have h1 := wrIn_min (l := l) (a := f) ts ht
    have hle : ∀ y ∈ r, f ≤ y := fun y hy => by have := (List.pairwise_cons.1 hs).1 y hy; simpa [leI] using this
    rw [wrOut]
    cases hq : wrIn l f ts with
    | some m =>
      rw [hq] at h1
      refine ⟨⟨by rw [h1.1.1]; simp, h1.1.2⟩, fun x ⟨hx1, hx2, hx3⟩ => ?_⟩
      obtain ⟨x1, x2⟩ := x
      simp only [List.mem_cons] at hx1
      by_cases e : x1 = f
      · exact h1.2 _ ⟨e, hx2, hx3⟩
      · rcases hx1 with hx1 | hx1
        · exact absurd hx1 e
        · have := hle _ hx1
          exact .inr (.inl (by rw [h1.1.1]; dsimp only; omega))
    | none =>
      rw [hq] at h1
      refine ih.iff fun x => ?_
      obtain ⟨x1, x2⟩ := x
      simp only [List.mem_cons]
      constructor
      · rintro ⟨h1, h2, h3⟩; exact ⟨.inr h1, h2, h3⟩
      · rintro ⟨e | e, h2, h3⟩
        · exact absurd ⟨e, h2, h3⟩ (h1 (x1, x2))
        · exact ⟨e, h2, h3⟩
theorem sortedI (xs : List Int) : (xs.mergeSort leI).Pairwise (fun x y => leI x y = true) :=
  List.pairwise_mergeSort (fun a b c h1 h2 => by simp [leI] at *; omega) (fun a b => by simp [leI]; omega) xs
theorem wrS_eq (l : List Ga) : wrS l = wOut l (l.map (·.t)) none (l.map (·.f)) := by
  refine IsMin.uniq (P := fun x => x.1 ∈ l.map (·.f) ∧ x.2 ∈ l.map (·.t) ∧ goodP l x) ?_ ?_
  · exact (wrOut_min (sortedI _) _ (sortedI _)).iff fun x => by simp only [List.mem_mergeSort]
  · exact (wOut_min _ (P := fun _ => False) (o := none) (fun _ h => h)).iff fun x => by simp
def oA (o : Option (Int × Int)) : Int := match o with | none => -1 | some m => m.1
def oB (o : Option (Int × Int)) : Int := match o with | none => -1 | some m => m.2
attribute [local irreducible] Pure_ bndS
set_option maxHeartbeats 2000000 in
theorem rWrong_any (p : Option Addr) (c1 : Nat) (l : List Ga) (w : World) (hl : l.length ≤ 9223372036854775807) (h1 : RowAt w p 10 l.length (gRow l)) :
    Pure_ Try.prog 26 (SV.vals [.sl 1000 p 10 none l.length c1]) (wrV l).val w := by
  have hval : ∀ w', RowAt w' p 10 l.length (gRow l) → Pure_ Try.prog 9 [.slice p l.length c1] (SV.bool (decide (okL l))).val w' := fun w' r => rokl_any p c1 l w' hl r.gs
  have hbnd : ∀ a b w', RowAt w' p 10 l.length (gRow l) → Pure_ Try.prog 16 [.slice p l.length c1, .int .i64 a, .int .i64 b] (bnV l a b).val w' := fun a b w' r => rBounds_any hl r
  refine V.pure (H := [(1000, .row false p 10 26 l.length c1 (gRow l))]) tab_ok mixed [] Try.func26 rfl Try.ntmps26 rfl rfl (.cons (.ext h1 (by simp)) .nil) ?_
  unfold wrV
  by_cases g : okL l
  · rw [if_pos g]
    rw [decide_eq_true g] at hval
    rw [wrS_eq]
    obtain ⟨fs, hfs⟩ : ∃ fs, fs = l.map (·.f) := ⟨_, rfl⟩
    obtain ⟨ts, hts⟩ : ∃ ts, ts = l.map (·.t) := ⟨_, rfl⟩
    have hfl : fs.length = l.length := by rw [hfs]; simp
    have htl : ts.length = l.length := by rw [hts]; simp
    rw [← hfs, ← hts]
    have hf0 : ∀ k, k < l.length → fs.getD k 0 = (l.getD k ga0).f := fun k hk => by rw [hfs]; simp [List.getD_eq_getElem?_getD, hk]
    have ht0 : ∀ k, k < l.length → ts.getD k 0 = (l.getD k ga0).t := fun k hk => by rw [hts]; simp [List.getD_eq_getElem?_getD, hk]
    (repeat' (first | ((with_reducible show drawB _ _ = true); kernel_rfl) | ((with_reducible show anyB _ = true); kernel_rfl) | ((with_reducible show _ = _); first | exact rfl | omega | assumption) | ((with_reducible show (_ : Int) ≤ _); first | omega | (exact bytes_leZ (by decide) (by omega) (by omega))) | ((with_reducible show (_ : Int) < _); omega) | ((with_reducible show (_ : Nat) ≤ _); first | omega | (simp only [addn]; omega) | (refine bytes_le (by decide) ?_; omega)) | ((with_reducible show (_ : Nat) < _); first | assumption | omega | (simp only [addn]; omega)) | (with_reducible exact trivial) | ((try (conv => whnf)); (first | (with_reducible refine And.intro ?_ ?_) | ((with_reducible show spl _ _); first | (refine spl_t (by first | omega | assumption | exact rfl) ?_) | (refine spl_f (by first | omega | assumption | (intro h; cases h; done)) ?_) | (refine spl_i (fun _ => ?_) (fun _ => ?_))) | ((with_reducible show spln _ _); first | (refine spln_t (by first | omega | assumption | exact rfl) ?_) | (refine spln_f (by first | omega | assumption | (intro h; cases h; done)) ?_) | (refine spln_i (fun _ => ?_) (fun _ => ?_))) | (with_reducible refine fun h : (_ : Int) = _ => absurd h (by omega)) | (with_reducible refine fun h : (_ : Nat) = _ => absurd h (by omega)) | (with_reducible intro _) | (with_reducible refine QuoV.pos (by omega) ?_) | (with_reducible refine RemV.pos (by omega) ?_) | ((with_reducible show IxV _ _); first | (refine IxV.nat _ rfl ?_) | (refine IxV.gen ?_)) | ((with_reducible show CallV _ _ _ _ _ _ _ _); (with_reducible show CallV _ _ _ _ _ _ _ _); (first | (refine CallV.pure _ inferInstance (fun w' L' hL' hw' => hval w' (hL'.row (i := 1000) rfl hw')) ?_) | (refine CallV.pure _ inferInstance (fun w' L' hL' hw' => hbnd _ _ w' (hL'.row (i := 1000) rfl hw')) ?_))) | ((with_reducible show CallP _ _ _ _ _ _ _ _); (with_reducible show CallV _ _ _ _ _ _ _ _); (first | (refine CallV.pure _ inferInstance (fun w' L' hL' hw' => hval w' (hL'.row (i := 1000) rfl hw')) ?_) | (refine CallV.pure _ inferInstance (fun w' L' hL' hw' => hbnd _ _ w' (hL'.row (i := 1000) rfl hw')) ?_))) | (with_reducible exact trivial) | (with_reducible exact fun _ _ => trivial) | ((with_reducible show Known _ _ _ _ _ _ _ _); (fail "not known")) | (fail "no more")))))
    refine LoopV.mk tab_ok mixed [] [0, 2, 3, 4] [1000] (fun x : Nat × Option (Int × Int) => [(5, .int .i64 (oA x.2)), (6, .int .i64 (oB x.2)), (7, .int .i64 x.1)]) (fun _ => []) (fun x => x.1 ≤ l.length ∧ wOut l ts none fs = wOut l ts x.2 (fs.drop x.1) ∧ ∀ m, x.2 = some m → 0 ≤ m.1) (fun x => l.length - x.1) (0, none) ?_ ?_ ?_ ?_
    · exact ⟨by omega, rfl, fun m hm => by cases hm⟩
    · (repeat' (first | (exact trivial) | (exact rfl) | (refine And.intro ?_ ?_) | (exact fun _ _ => ⟨rfl, rfl⟩) | omega))
    · exact trivial
    refine And.intro rfl ?_
    rintro ⟨i, o⟩ ⟨hi, hR, ho⟩
    dsimp only at hi hR ho ⊢
    by_cases hin : i < l.length
    · rw [drop_getD (by omega), wOut, hf0 i hin] at hR
      have hgi := getD_ok g.2.2 hin
      obtain ⟨_, _, _, _, f0, f1, f2⟩ := hgi
      (repeat' (first | ((with_reducible show drawB _ _ = true); kernel_rfl) | ((with_reducible show anyB _ = true); kernel_rfl) | ((with_reducible show _ = _); first | exact rfl | omega | assumption) | ((with_reducible show (_ : Int) ≤ _); first | omega | (exact bytes_leZ (by decide) (by omega) (by omega))) | ((with_reducible show (_ : Int) < _); omega) | ((with_reducible show (_ : Nat) ≤ _); first | omega | (simp only [addn]; omega) | (refine bytes_le (by decide) ?_; omega)) | ((with_reducible show (_ : Nat) < _); first | assumption | omega | (simp only [addn]; omega)) | (with_reducible exact trivial) | ((try (conv => whnf)); (first | (with_reducible refine And.intro ?_ ?_) | ((with_reducible show spl _ _); first | (refine spl_t (by first | omega | assumption | exact rfl) ?_) | (refine spl_f (by first | omega | assumption | (intro h; cases h; done)) ?_) | (refine spl_i (fun _ => ?_) (fun _ => ?_))) | ((with_reducible show spln _ _); first | (refine spln_t (by first | omega | assumption | exact rfl) ?_) | (refine spln_f (by first | omega | assumption | (intro h; cases h; done)) ?_) | (refine spln_i (fun _ => ?_) (fun _ => ?_))) | (with_reducible refine fun h : (_ : Int) = _ => absurd h (by omega)) | (with_reducible refine fun h : (_ : Nat) = _ => absurd h (by omega)) | (with_reducible intro _) | (with_reducible refine QuoV.pos (by omega) ?_) | (with_reducible refine RemV.pos (by omega) ?_) | ((with_reducible show IxV _ _); first | (refine IxV.nat _ rfl ?_) | (refine IxV.gen ?_)) | ((with_reducible show CallV _ _ _ _ _ _ _ _); (with_reducible show CallV _ _ _ _ _ _ _ _); (first | (refine CallV.pure _ inferInstance (fun w' L' hL' hw' => hval w' (hL'.row (i := 1000) rfl hw')) ?_) | (refine CallV.pure _ inferInstance (fun w' L' hL' hw' => hbnd _ _ w' (hL'.row (i := 1000) rfl hw')) ?_))) | ((with_reducible show CallP _ _ _ _ _ _ _ _); (with_reducible show CallV _ _ _ _ _ _ _ _); (first | (refine CallV.pure _ inferInstance (fun w' L' hL' hw' => hval w' (hL'.row (i := 1000) rfl hw')) ?_) | (refine CallV.pure _ inferInstance (fun w' L' hL' hw' => hbnd _ _ w' (hL'.row (i := 1000) rfl hw')) ?_))) | (with_reducible exact trivial) | (with_reducible exact fun _ _ => trivial) | ((with_reducible show Known _ _ _ _ _ _ _ _); (fail "not known")) | (fail "no more")))))
      refine LoopV.mk tab_ok mixed [] [0, 2, 3, 4, 7] [1000] (fun x : Nat × Option (Int × Int) => [(5, .int .i64 (oA x.2)), (6, .int .i64 (oB x.2)), (8, .int .i64 x.1)]) (fun _ => []) (fun x => x.1 ≤ l.length ∧ wOut l ts none fs = wOut l ts (wIn l (l.getD i ga0).f x.2 (ts.drop x.1)) (fs.drop (i + 1)) ∧ ∀ m, x.2 = some m → 0 ≤ m.1) (fun x => l.length - x.1) (0, o) ?_ ?_ ?_ ?_
      · exact ⟨by omega, hR, ho⟩
      · (repeat' (first | (exact trivial) | (exact rfl) | (refine And.intro ?_ ?_) | (exact fun _ _ => ⟨rfl, rfl⟩) | omega))
      · exact trivial
      refine And.intro rfl ?_
      rintro ⟨k, o'⟩ ⟨hk, hR', ho'⟩
      dsimp only at hk hR' ho' ⊢
      by_cases hkn : k < l.length
      · rw [drop_getD (by omega), wIn, ht0 k hkn] at hR'
        by_cases t1 : (l.getD i ga0).f < (l.getD k ga0).t
        · by_cases t2 : newW o' ((l.getD i ga0).f, (l.getD k ga0).t)
          · have t2' := t2
            by_cases t3 : (bndS l (l.getD i ga0).f (l.getD k ga0).t).2 = 10
            · unfold stepW at hR'
              rw [if_pos ⟨⟨t1, t3⟩, t2⟩] at hR'
              cases o' with
              | none =>
                have e1 : oA none < 0 := by decide
                (repeat' (first | ((with_reducible show drawB _ _ = true); kernel_rfl) | ((with_reducible show anyB _ = true); kernel_rfl) | ((with_reducible show _ = _); first | exact rfl | omega | assumption) | ((with_reducible show (_ : Int) ≤ _); first | omega | (exact bytes_leZ (by decide) (by omega) (by omega))) | ((with_reducible show (_ : Int) < _); omega) | ((with_reducible show (_ : Nat) ≤ _); first | omega | (simp only [addn]; omega) | (refine bytes_le (by decide) ?_; omega)) | ((with_reducible show (_ : Nat) < _); first | assumption | omega | (simp only [addn]; omega)) | (with_reducible exact trivial) | ((try (conv => whnf)); (first | (with_reducible refine And.intro ?_ ?_) | ((with_reducible show spl _ _); first | (refine spl_t (by first | omega | assumption | exact rfl) ?_) | (refine spl_f (by first | omega | assumption | (intro h; cases h; done)) ?_) | (refine spl_i (fun _ => ?_) (fun _ => ?_))) | ((with_reducible show spln _ _); first | (refine spln_t (by first | omega | assumption | exact rfl) ?_) | (refine spln_f (by first | omega | assumption | (intro h; cases h; done)) ?_) | (refine spln_i (fun _ => ?_) (fun _ => ?_))) | (with_reducible refine fun h : (_ : Int) = _ => absurd h (by omega)) | (with_reducible refine fun h : (_ : Nat) = _ => absurd h (by omega)) | (with_reducible intro _) | (with_reducible refine QuoV.pos (by omega) ?_) | (with_reducible refine RemV.pos (by omega) ?_) | ((with_reducible show IxV _ _); first | (refine IxV.nat _ rfl ?_) | (refine IxV.gen ?_)) | ((with_reducible show CallV _ _ _ _ _ _ _ _); (with_reducible show CallV _ _ _ _ _ _ _ _); (first | (refine CallV.pure _ inferInstance (fun w' L' hL' hw' => hval w' (hL'.row (i := 1000) rfl hw')) ?_) | (refine CallV.pure _ inferInstance (fun w' L' hL' hw' => hbnd _ _ w' (hL'.row (i := 1000) rfl hw')) ?_))) | ((with_reducible show CallP _ _ _ _ _ _ _ _); (with_reducible show CallV _ _ _ _ _ _ _ _); (first | (refine CallV.pure _ inferInstance (fun w' L' hL' hw' => hval w' (hL'.row (i := 1000) rfl hw')) ?_) | (refine CallV.pure _ inferInstance (fun w' L' hL' hw' => hbnd _ _ w' (hL'.row (i := 1000) rfl hw')) ?_))) | (with_reducible exact trivial) | (with_reducible exact fun _ _ => trivial) | ((with_reducible show Known _ _ _ _ _ _ _ _); (fail "not known")) | (fail "no more")))))
                show AgainV _ _ _ _ _ _ _ _ _ _ _ _ _; refine AgainV.mk (k + 1, some ((l.getD i ga0).f, (l.getD k ga0).t)) ⟨by dsimp only; omega, hR', fun m hm => by injection hm with hm; subst hm; exact f0⟩ (by dsimp only; omega) ?_ ?_ ?_ ?_ rfl <;> (repeat' (first | (exact trivial) | (exact rfl) | (refine And.intro ?_ ?_) | (exact fun _ _ => ⟨rfl, rfl⟩) | omega))
              | some m =>
                have e1 := ho' m rfl
                have e2 : oA (some m) = m.1 := rfl
                have e3 : oB (some m) = m.2 := rfl
                simp only [newW, lexlt] at t2'
                rw [e2, e3]
                by_cases t4 : (l.getD i ga0).f = m.1
                · (repeat' (first | ((with_reducible show drawB _ _ = true); kernel_rfl) | ((with_reducible show anyB _ = true); kernel_rfl) | ((with_reducible show _ = _); first | exact rfl | omega | assumption) | ((with_reducible show (_ : Int) ≤ _); first | omega | (exact bytes_leZ (by decide) (by omega) (by omega))) | ((with_reducible show (_ : Int) < _); omega) | ((with_reducible show (_ : Nat) ≤ _); first | omega | (simp only [addn]; omega) | (refine bytes_le (by decide) ?_; omega)) | ((with_reducible show (_ : Nat) < _); first | assumption | omega | (simp only [addn]; omega)) | (with_reducible exact trivial) | ((try (conv => whnf)); (first | (with_reducible refine And.intro ?_ ?_) | ((with_reducible show spl _ _); first | (refine spl_t (by first | omega | assumption | exact rfl) ?_) | (refine spl_f (by first | omega | assumption | (intro h; cases h; done)) ?_) | (refine spl_i (fun _ => ?_) (fun _ => ?_))) | ((with_reducible show spln _ _); first | (refine spln_t (by first | omega | assumption | exact rfl) ?_) | (refine spln_f (by first | omega | assumption | (intro h; cases h; done)) ?_) | (refine spln_i (fun _ => ?_) (fun _ => ?_))) | (with_reducible refine fun h : (_ : Int) = _ => absurd h (by omega)) | (with_reducible refine fun h : (_ : Nat) = _ => absurd h (by omega)) | (with_reducible intro _) | (with_reducible refine QuoV.pos (by omega) ?_) | (with_reducible refine RemV.pos (by omega) ?_) | ((with_reducible show IxV _ _); first | (refine IxV.nat _ rfl ?_) | (refine IxV.gen ?_)) | ((with_reducible show CallV _ _ _ _ _ _ _ _); (with_reducible show CallV _ _ _ _ _ _ _ _); (first | (refine CallV.pure _ inferInstance (fun w' L' hL' hw' => hval w' (hL'.row (i := 1000) rfl hw')) ?_) | (refine CallV.pure _ inferInstance (fun w' L' hL' hw' => hbnd _ _ w' (hL'.row (i := 1000) rfl hw')) ?_))) | ((with_reducible show CallP _ _ _ _ _ _ _ _); (with_reducible show CallV _ _ _ _ _ _ _ _); (first | (refine CallV.pure _ inferInstance (fun w' L' hL' hw' => hval w' (hL'.row (i := 1000) rfl hw')) ?_) | (refine CallV.pure _ inferInstance (fun w' L' hL' hw' => hbnd _ _ w' (hL'.row (i := 1000) rfl hw')) ?_))) | (with_reducible exact trivial) | (with_reducible exact fun _ _ => trivial) | ((with_reducible show Known _ _ _ _ _ _ _ _); (fail "not known")) | (fail "no more")))))
                  show AgainV _ _ _ _ _ _ _ _ _ _ _ _ _; refine AgainV.mk (k + 1, some ((l.getD i ga0).f, (l.getD k ga0).t)) ⟨by dsimp only; omega, hR', fun m hm => by injection hm with hm; subst hm; exact f0⟩ (by dsimp only; omega) ?_ ?_ ?_ ?_ rfl <;> (repeat' (first | (exact trivial) | (exact rfl) | (refine And.intro ?_ ?_) | (exact fun _ _ => ⟨rfl, rfl⟩) | omega))
                · (repeat' (first | ((with_reducible show drawB _ _ = true); kernel_rfl) | ((with_reducible show anyB _ = true); kernel_rfl) | ((with_reducible show _ = _); first | exact rfl | omega | assumption) | ((with_reducible show (_ : Int) ≤ _); first | omega | (exact bytes_leZ (by decide) (by omega) (by omega))) | ((with_reducible show (_ : Int) < _); omega) | ((with_reducible show (_ : Nat) ≤ _); first | omega | (simp only [addn]; omega) | (refine bytes_le (by decide) ?_; omega)) | ((with_reducible show (_ : Nat) < _); first | assumption | omega | (simp only [addn]; omega)) | (with_reducible exact trivial) | ((try (conv => whnf)); (first | (with_reducible refine And.intro ?_ ?_) | ((with_reducible show spl _ _); first | (refine spl_t (by first | omega | assumption | exact rfl) ?_) | (refine spl_f (by first | omega | assumption | (intro h; cases h; done)) ?_) | (refine spl_i (fun _ => ?_) (fun _ => ?_))) | ((with_reducible show spln _ _); first | (refine spln_t (by first | omega | assumption | exact rfl) ?_) | (refine spln_f (by first | omega | assumption | (intro h; cases h; done)) ?_) | (refine spln_i (fun _ => ?_) (fun _ => ?_))) | (with_reducible refine fun h : (_ : Int) = _ => absurd h (by omega)) | (with_reducible refine fun h : (_ : Nat) = _ => absurd h (by omega)) | (with_reducible intro _) | (with_reducible refine QuoV.pos (by omega) ?_) | (with_reducible refine RemV.pos (by omega) ?_) | ((with_reducible show IxV _ _); first | (refine IxV.nat _ rfl ?_) | (refine IxV.gen ?_)) | ((with_reducible show CallV _ _ _ _ _ _ _ _); (with_reducible show CallV _ _ _ _ _ _ _ _); (first | (refine CallV.pure _ inferInstance (fun w' L' hL' hw' => hval w' (hL'.row (i := 1000) rfl hw')) ?_) | (refine CallV.pure _ inferInstance (fun w' L' hL' hw' => hbnd _ _ w' (hL'.row (i := 1000) rfl hw')) ?_))) | ((with_reducible show CallP _ _ _ _ _ _ _ _); (with_reducible show CallV _ _ _ _ _ _ _ _); (first | (refine CallV.pure _ inferInstance (fun w' L' hL' hw' => hval w' (hL'.row (i := 1000) rfl hw')) ?_) | (refine CallV.pure _ inferInstance (fun w' L' hL' hw' => hbnd _ _ w' (hL'.row (i := 1000) rfl hw')) ?_))) | (with_reducible exact trivial) | (with_reducible exact fun _ _ => trivial) | ((with_reducible show Known _ _ _ _ _ _ _ _); (fail "not known")) | (fail "no more")))))
                  show AgainV _ _ _ _ _ _ _ _ _ _ _ _ _; refine AgainV.mk (k + 1, some ((l.getD i ga0).f, (l.getD k ga0).t)) ⟨by dsimp only; omega, hR', fun m hm => by injection hm with hm; subst hm; exact f0⟩ (by dsimp only; omega) ?_ ?_ ?_ ?_ rfl <;> (repeat' (first | (exact trivial) | (exact rfl) | (refine And.intro ?_ ?_) | (exact fun _ _ => ⟨rfl, rfl⟩) | omega))
            · unfold stepW at hR'
              rw [if_neg (fun h => t3 h.1.2)] at hR'
              cases o' with
              | none =>
                have e1 : oA none < 0 := by decide
                (repeat' (first | ((with_reducible show drawB _ _ = true); kernel_rfl) | ((with_reducible show anyB _ = true); kernel_rfl) | ((with_reducible show _ = _); first | exact rfl | omega | assumption) | ((with_reducible show (_ : Int) ≤ _); first | omega | (exact bytes_leZ (by decide) (by omega) (by omega))) | ((with_reducible show (_ : Int) < _); omega) | ((with_reducible show (_ : Nat) ≤ _); first | omega | (simp only [addn]; omega) | (refine bytes_le (by decide) ?_; omega)) | ((with_reducible show (_ : Nat) < _); first | assumption | omega | (simp only [addn]; omega)) | (with_reducible exact trivial) | ((try (conv => whnf)); (first | (with_reducible refine And.intro ?_ ?_) | ((with_reducible show spl _ _); first | (refine spl_t (by first | omega | assumption | exact rfl) ?_) | (refine spl_f (by first | omega | assumption | (intro h; cases h; done)) ?_) | (refine spl_i (fun _ => ?_) (fun _ => ?_))) | ((with_reducible show spln _ _); first | (refine spln_t (by first | omega | assumption | exact rfl) ?_) | (refine spln_f (by first | omega | assumption | (intro h; cases h; done)) ?_) | (refine spln_i (fun _ => ?_) (fun _ => ?_))) | (with_reducible refine fun h : (_ : Int) = _ => absurd h (by omega)) | (with_reducible refine fun h : (_ : Nat) = _ => absurd h (by omega)) | (with_reducible intro _) | (with_reducible refine QuoV.pos (by omega) ?_) | (with_reducible refine RemV.pos (by omega) ?_) | ((with_reducible show IxV _ _); first | (refine IxV.nat _ rfl ?_) | (refine IxV.gen ?_)) | ((with_reducible show CallV _ _ _ _ _ _ _ _); (with_reducible show CallV _ _ _ _ _ _ _ _); (first | (refine CallV.pure _ inferInstance (fun w' L' hL' hw' => hval w' (hL'.row (i := 1000) rfl hw')) ?_) | (refine CallV.pure _ inferInstance (fun w' L' hL' hw' => hbnd _ _ w' (hL'.row (i := 1000) rfl hw')) ?_))) | ((with_reducible show CallP _ _ _ _ _ _ _ _); (with_reducible show CallV _ _ _ _ _ _ _ _); (first | (refine CallV.pure _ inferInstance (fun w' L' hL' hw' => hval w' (hL'.row (i := 1000) rfl hw')) ?_) | (refine CallV.pure _ inferInstance (fun w' L' hL' hw' => hbnd _ _ w' (hL'.row (i := 1000) rfl hw')) ?_))) | (with_reducible exact trivial) | (with_reducible exact fun _ _ => trivial) | ((with_reducible show Known _ _ _ _ _ _ _ _); (fail "not known")) | (fail "no more")))))
                show AgainV _ _ _ _ _ _ _ _ _ _ _ _ _; refine AgainV.mk (k + 1, none) ⟨by dsimp only; omega, hR', ho'⟩ (by dsimp only; omega) ?_ ?_ ?_ ?_ rfl <;> (repeat' (first | (exact trivial) | (exact rfl) | (refine And.intro ?_ ?_) | (exact fun _ _ => ⟨rfl, rfl⟩) | omega))
              | some m =>
                have e1 := ho' m rfl
                have e2 : oA (some m) = m.1 := rfl
                have e3 : oB (some m) = m.2 := rfl
                simp only [newW, lexlt] at t2'
                rw [e2, e3]
                by_cases t4 : (l.getD i ga0).f = m.1
                · (repeat' (first | ((with_reducible show drawB _ _ = true); kernel_rfl) | ((with_reducible show anyB _ = true); kernel_rfl) | ((with_reducible show _ = _); first | exact rfl | omega | assumption) | ((with_reducible show (_ : Int) ≤ _); first | omega | (exact bytes_leZ (by decide) (by omega) (by omega))) | ((with_reducible show (_ : Int) < _); omega) | ((with_reducible show (_ : Nat) ≤ _); first | omega | (simp only [addn]; omega) | (refine bytes_le (by decide) ?_; omega)) | ((with_reducible show (_ : Nat) < _); first | assumption | omega | (simp only [addn]; omega)) | (with_reducible exact trivial) | ((try (conv => whnf)); (first | (with_reducible refine And.intro ?_ ?_) | ((with_reducible show spl _ _); first | (refine spl_t (by first | omega | assumption | exact rfl) ?_) | (refine spl_f (by first | omega | assumption | (intro h; cases h; done)) ?_) | (refine spl_i (fun _ => ?_) (fun _ => ?_))) | ((with_reducible show spln _ _); first | (refine spln_t (by first | omega | assumption | exact rfl) ?_) | (refine spln_f (by first | omega | assumption | (intro h; cases h; done)) ?_) | (refine spln_i (fun _ => ?_) (fun _ => ?_))) | (with_reducible refine fun h : (_ : Int) = _ => absurd h (by omega)) | (with_reducible refine fun h : (_ : Nat) = _ => absurd h (by omega)) | (with_reducible intro _) | (with_reducible refine QuoV.pos (by omega) ?_) | (with_reducible refine RemV.pos (by omega) ?_) | ((with_reducible show IxV _ _); first | (refine IxV.nat _ rfl ?_) | (refine IxV.gen ?_)) | ((with_reducible show CallV _ _ _ _ _ _ _ _); (with_reducible show CallV _ _ _ _ _ _ _ _); (first | (refine CallV.pure _ inferInstance (fun w' L' hL' hw' => hval w' (hL'.row (i := 1000) rfl hw')) ?_) | (refine CallV.pure _ inferInstance (fun w' L' hL' hw' => hbnd _ _ w' (hL'.row (i := 1000) rfl hw')) ?_))) | ((with_reducible show CallP _ _ _ _ _ _ _ _); (with_reducible show CallV _ _ _ _ _ _ _ _); (first | (refine CallV.pure _ inferInstance (fun w' L' hL' hw' => hval w' (hL'.row (i := 1000) rfl hw')) ?_) | (refine CallV.pure _ inferInstance (fun w' L' hL' hw' => hbnd _ _ w' (hL'.row (i := 1000) rfl hw')) ?_))) | (with_reducible exact trivial) | (with_reducible exact fun _ _ => trivial) | ((with_reducible show Known _ _ _ _ _ _ _ _); (fail "not known")) | (fail "no more")))))
                  show AgainV _ _ _ _ _ _ _ _ _ _ _ _ _; refine AgainV.mk (k + 1, some m) ⟨by dsimp only; omega, hR', ho'⟩ (by dsimp only; omega) ?_ ?_ ?_ ?_ rfl <;> (repeat' (first | (exact trivial) | (exact rfl) | (refine And.intro ?_ ?_) | (exact fun _ _ => ⟨rfl, rfl⟩) | omega))
                · (repeat' (first | ((with_reducible show drawB _ _ = true); kernel_rfl) | ((with_reducible show anyB _ = true); kernel_rfl) | ((with_reducible show _ = _); first | exact rfl | omega | assumption) | ((with_reducible show (_ : Int) ≤ _); first | omega | (exact bytes_leZ (by decide) (by omega) (by omega))) | ((with_reducible show (_ : Int) < _); omega) | ((with_reducible show (_ : Nat) ≤ _); first | omega | (simp only [addn]; omega) | (refine bytes_le (by decide) ?_; omega)) | ((with_reducible show (_ : Nat) < _); first | assumption | omega | (simp only [addn]; omega)) | (with_reducible exact trivial) | ((try (conv => whnf)); (first | (with_reducible refine And.intro ?_ ?_) | ((with_reducible show spl _ _); first | (refine spl_t (by first | omega | assumption | exact rfl) ?_) | (refine spl_f (by first | omega | assumption | (intro h; cases h; done)) ?_) | (refine spl_i (fun _ => ?_) (fun _ => ?_))) | ((with_reducible show spln _ _); first | (refine spln_t (by first | omega | assumption | exact rfl) ?_) | (refine spln_f (by first | omega | assumption | (intro h; cases h; done)) ?_) | (refine spln_i (fun _ => ?_) (fun _ => ?_))) | (with_reducible refine fun h : (_ : Int) = _ => absurd h (by omega)) | (with_reducible refine fun h : (_ : Nat) = _ => absurd h (by omega)) | (with_reducible intro _) | (with_reducible refine QuoV.pos (by omega) ?_) | (with_reducible refine RemV.pos (by omega) ?_) | ((with_reducible show IxV _ _); first | (refine IxV.nat _ rfl ?_) | (refine IxV.gen ?_)) | ((with_reducible show CallV _ _ _ _ _ _ _ _); (with_reducible show CallV _ _ _ _ _ _ _ _); (first | (refine CallV.pure _ inferInstance (fun w' L' hL' hw' => hval w' (hL'.row (i := 1000) rfl hw')) ?_) | (refine CallV.pure _ inferInstance (fun w' L' hL' hw' => hbnd _ _ w' (hL'.row (i := 1000) rfl hw')) ?_))) | ((with_reducible show CallP _ _ _ _ _ _ _ _); (with_reducible show CallV _ _ _ _ _ _ _ _); (first | (refine CallV.pure _ inferInstance (fun w' L' hL' hw' => hval w' (hL'.row (i := 1000) rfl hw')) ?_) | (refine CallV.pure _ inferInstance (fun w' L' hL' hw' => hbnd _ _ w' (hL'.row (i := 1000) rfl hw')) ?_))) | (with_reducible exact trivial) | (with_reducible exact fun _ _ => trivial) | ((with_reducible show Known _ _ _ _ _ _ _ _); (fail "not known")) | (fail "no more")))))
                  show AgainV _ _ _ _ _ _ _ _ _ _ _ _ _; refine AgainV.mk (k + 1, some m) ⟨by dsimp only; omega, hR', ho'⟩ (by dsimp only; omega) ?_ ?_ ?_ ?_ rfl <;> (repeat' (first | (exact trivial) | (exact rfl) | (refine And.intro ?_ ?_) | (exact fun _ _ => ⟨rfl, rfl⟩) | omega))
          · unfold stepW at hR'
            rw [if_neg (fun h => t2 h.2)] at hR'
            cases o' with
            | none => exact absurd trivial t2
            | some m =>
              have e1 := ho' m rfl
              have e2 : oA (some m) = m.1 := rfl
              have e3 : oB (some m) = m.2 := rfl
              simp only [newW, lexlt] at t2
              rw [e2, e3]
              by_cases t4 : m.1 < (l.getD i ga0).f
              · (repeat' (first | ((with_reducible show drawB _ _ = true); kernel_rfl) | ((with_reducible show anyB _ = true); kernel_rfl) | ((with_reducible show _ = _); first | exact rfl | omega | assumption) | ((with_reducible show (_ : Int) ≤ _); first | omega | (exact bytes_leZ (by decide) (by omega) (by omega))) | ((with_reducible show (_ : Int) < _); omega) | ((with_reducible show (_ : Nat) ≤ _); first | omega | (simp only [addn]; omega) | (refine bytes_le (by decide) ?_; omega)) | ((with_reducible show (_ : Nat) < _); first | assumption | omega | (simp only [addn]; omega)) | (with_reducible exact trivial) | ((try (conv => whnf)); (first | (with_reducible refine And.intro ?_ ?_) | ((with_reducible show spl _ _); first | (refine spl_t (by first | omega | assumption | exact rfl) ?_) | (refine spl_f (by first | omega | assumption | (intro h; cases h; done)) ?_) | (refine spl_i (fun _ => ?_) (fun _ => ?_))) | ((with_reducible show spln _ _); first | (refine spln_t (by first | omega | assumption | exact rfl) ?_) | (refine spln_f (by first | omega | assumption | (intro h; cases h; done)) ?_) | (refine spln_i (fun _ => ?_) (fun _ => ?_))) | (with_reducible refine fun h : (_ : Int) = _ => absurd h (by omega)) | (with_reducible refine fun h : (_ : Nat) = _ => absurd h (by omega)) | (with_reducible intro _) | (with_reducible refine QuoV.pos (by omega) ?_) | (with_reducible refine RemV.pos (by omega) ?_) | ((with_reducible show IxV _ _); first | (refine IxV.nat _ rfl ?_) | (refine IxV.gen ?_)) | ((with_reducible show CallV _ _ _ _ _ _ _ _); (with_reducible show CallV _ _ _ _ _ _ _ _); (first | (refine CallV.pure _ inferInstance (fun w' L' hL' hw' => hval w' (hL'.row (i := 1000) rfl hw')) ?_) | (refine CallV.pure _ inferInstance (fun w' L' hL' hw' => hbnd _ _ w' (hL'.row (i := 1000) rfl hw')) ?_))) | ((with_reducible show CallP _ _ _ _ _ _ _ _); (with_reducible show CallV _ _ _ _ _ _ _ _); (first | (refine CallV.pure _ inferInstance (fun w' L' hL' hw' => hval w' (hL'.row (i := 1000) rfl hw')) ?_) | (refine CallV.pure _ inferInstance (fun w' L' hL' hw' => hbnd _ _ w' (hL'.row (i := 1000) rfl hw')) ?_))) | (with_reducible exact trivial) | (with_reducible exact fun _ _ => trivial) | ((with_reducible show Known _ _ _ _ _ _ _ _); (fail "not known")) | (fail "no more")))))
                show AgainV _ _ _ _ _ _ _ _ _ _ _ _ _; refine AgainV.mk (k + 1, some m) ⟨by dsimp only; omega, hR', ho'⟩ (by dsimp only; omega) ?_ ?_ ?_ ?_ rfl <;> (repeat' (first | (exact trivial) | (exact rfl) | (refine And.intro ?_ ?_) | (exact fun _ _ => ⟨rfl, rfl⟩) | omega))
              · (repeat' (first | ((with_reducible show drawB _ _ = true); kernel_rfl) | ((with_reducible show anyB _ = true); kernel_rfl) | ((with_reducible show _ = _); first | exact rfl | omega | assumption) | ((with_reducible show (_ : Int) ≤ _); first | omega | (exact bytes_leZ (by decide) (by omega) (by omega))) | ((with_reducible show (_ : Int) < _); omega) | ((with_reducible show (_ : Nat) ≤ _); first | omega | (simp only [addn]; omega) | (refine bytes_le (by decide) ?_; omega)) | ((with_reducible show (_ : Nat) < _); first | assumption | omega | (simp only [addn]; omega)) | (with_reducible exact trivial) | ((try (conv => whnf)); (first | (with_reducible refine And.intro ?_ ?_) | ((with_reducible show spl _ _); first | (refine spl_t (by first | omega | assumption | exact rfl) ?_) | (refine spl_f (by first | omega | assumption | (intro h; cases h; done)) ?_) | (refine spl_i (fun _ => ?_) (fun _ => ?_))) | ((with_reducible show spln _ _); first | (refine spln_t (by first | omega | assumption | exact rfl) ?_) | (refine spln_f (by first | omega | assumption | (intro h; cases h; done)) ?_) | (refine spln_i (fun _ => ?_) (fun _ => ?_))) | (with_reducible refine fun h : (_ : Int) = _ => absurd h (by omega)) | (with_reducible refine fun h : (_ : Nat) = _ => absurd h (by omega)) | (with_reducible intro _) | (with_reducible refine QuoV.pos (by omega) ?_) | (with_reducible refine RemV.pos (by omega) ?_) | ((with_reducible show IxV _ _); first | (refine IxV.nat _ rfl ?_) | (refine IxV.gen ?_)) | ((with_reducible show CallV _ _ _ _ _ _ _ _); (with_reducible show CallV _ _ _ _ _ _ _ _); (first | (refine CallV.pure _ inferInstance (fun w' L' hL' hw' => hval w' (hL'.row (i := 1000) rfl hw')) ?_) | (refine CallV.pure _ inferInstance (fun w' L' hL' hw' => hbnd _ _ w' (hL'.row (i := 1000) rfl hw')) ?_))) | ((with_reducible show CallP _ _ _ _ _ _ _ _); (with_reducible show CallV _ _ _ _ _ _ _ _); (first | (refine CallV.pure _ inferInstance (fun w' L' hL' hw' => hval w' (hL'.row (i := 1000) rfl hw')) ?_) | (refine CallV.pure _ inferInstance (fun w' L' hL' hw' => hbnd _ _ w' (hL'.row (i := 1000) rfl hw')) ?_))) | (with_reducible exact trivial) | (with_reducible exact fun _ _ => trivial) | ((with_reducible show Known _ _ _ _ _ _ _ _); (fail "not known")) | (fail "no more")))))
                show AgainV _ _ _ _ _ _ _ _ _ _ _ _ _; refine AgainV.mk (k + 1, some m) ⟨by dsimp only; omega, hR', ho'⟩ (by dsimp only; omega) ?_ ?_ ?_ ?_ rfl <;> (repeat' (first | (exact trivial) | (exact rfl) | (refine And.intro ?_ ?_) | (exact fun _ _ => ⟨rfl, rfl⟩) | omega))
        · unfold stepW at hR'
          rw [if_neg (fun h => t1 h.1.1)] at hR'
          (repeat' (first | ((with_reducible show drawB _ _ = true); kernel_rfl) | ((with_reducible show anyB _ = true); kernel_rfl) | ((with_reducible show _ = _); first | exact rfl | omega | assumption) | ((with_reducible show (_ : Int) ≤ _); first | omega | (exact bytes_leZ (by decide) (by omega) (by omega))) | ((with_reducible show (_ : Int) < _); omega) | ((with_reducible show (_ : Nat) ≤ _); first | omega | (simp only [addn]; omega) | (refine bytes_le (by decide) ?_; omega)) | ((with_reducible show (_ : Nat) < _); first | assumption | omega | (simp only [addn]; omega)) | (with_reducible exact trivial) | ((try (conv => whnf)); (first | (with_reducible refine And.intro ?_ ?_) | ((with_reducible show spl _ _); first | (refine spl_t (by first | omega | assumption | exact rfl) ?_) | (refine spl_f (by first | omega | assumption | (intro h; cases h; done)) ?_) | (refine spl_i (fun _ => ?_) (fun _ => ?_))) | ((with_reducible show spln _ _); first | (refine spln_t (by first | omega | assumption | exact rfl) ?_) | (refine spln_f (by first | omega | assumption | (intro h; cases h; done)) ?_) | (refine spln_i (fun _ => ?_) (fun _ => ?_))) | (with_reducible refine fun h : (_ : Int) = _ => absurd h (by omega)) | (with_reducible refine fun h : (_ : Nat) = _ => absurd h (by omega)) | (with_reducible intro _) | (with_reducible refine QuoV.pos (by omega) ?_) | (with_reducible refine RemV.pos (by omega) ?_) | ((with_reducible show IxV _ _); first | (refine IxV.nat _ rfl ?_) | (refine IxV.gen ?_)) | ((with_reducible show CallV _ _ _ _ _ _ _ _); (with_reducible show CallV _ _ _ _ _ _ _ _); (first | (refine CallV.pure _ inferInstance (fun w' L' hL' hw' => hval w' (hL'.row (i := 1000) rfl hw')) ?_) | (refine CallV.pure _ inferInstance (fun w' L' hL' hw' => hbnd _ _ w' (hL'.row (i := 1000) rfl hw')) ?_))) | ((with_reducible show CallP _ _ _ _ _ _ _ _); (with_reducible show CallV _ _ _ _ _ _ _ _); (first | (refine CallV.pure _ inferInstance (fun w' L' hL' hw' => hval w' (hL'.row (i := 1000) rfl hw')) ?_) | (refine CallV.pure _ inferInstance (fun w' L' hL' hw' => hbnd _ _ w' (hL'.row (i := 1000) rfl hw')) ?_))) | (with_reducible exact trivial) | (with_reducible exact fun _ _ => trivial) | ((with_reducible show Known _ _ _ _ _ _ _ _); (fail "not known")) | (fail "no more")))))
          show AgainV _ _ _ _ _ _ _ _ _ _ _ _ _; refine AgainV.mk (k + 1, o') ⟨by dsimp only; omega, hR', ho'⟩ (by dsimp only; omega) ?_ ?_ ?_ ?_ rfl <;> (repeat' (first | (exact trivial) | (exact rfl) | (refine And.intro ?_ ?_) | (exact fun _ _ => ⟨rfl, rfl⟩) | omega))
      · rw [List.drop_of_length_le (by omega), wIn] at hR'
        (repeat' (first | ((with_reducible show drawB _ _ = true); kernel_rfl) | ((with_reducible show anyB _ = true); kernel_rfl) | ((with_reducible show _ = _); first | exact rfl | omega | assumption) | ((with_reducible show (_ : Int) ≤ _); first | omega | (exact bytes_leZ (by decide) (by omega) (by omega))) | ((with_reducible show (_ : Int) < _); omega) | ((with_reducible show (_ : Nat) ≤ _); first | omega | (simp only [addn]; omega) | (refine bytes_le (by decide) ?_; omega)) | ((with_reducible show (_ : Nat) < _); first | assumption | omega | (simp only [addn]; omega)) | (with_reducible exact trivial) | ((try (conv => whnf)); (first | (with_reducible refine And.intro ?_ ?_) | ((with_reducible show spl _ _); first | (refine spl_t (by first | omega | assumption | exact rfl) ?_) | (refine spl_f (by first | omega | assumption | (intro h; cases h; done)) ?_) | (refine spl_i (fun _ => ?_) (fun _ => ?_))) | ((with_reducible show spln _ _); first | (refine spln_t (by first | omega | assumption | exact rfl) ?_) | (refine spln_f (by first | omega | assumption | (intro h; cases h; done)) ?_) | (refine spln_i (fun _ => ?_) (fun _ => ?_))) | (with_reducible refine fun h : (_ : Int) = _ => absurd h (by omega)) | (with_reducible refine fun h : (_ : Nat) = _ => absurd h (by omega)) | (with_reducible intro _) | (with_reducible refine QuoV.pos (by omega) ?_) | (with_reducible refine RemV.pos (by omega) ?_) | ((with_reducible show IxV _ _); first | (refine IxV.nat _ rfl ?_) | (refine IxV.gen ?_)) | ((with_reducible show CallV _ _ _ _ _ _ _ _); (with_reducible show CallV _ _ _ _ _ _ _ _); (first | (refine CallV.pure _ inferInstance (fun w' L' hL' hw' => hval w' (hL'.row (i := 1000) rfl hw')) ?_) | (refine CallV.pure _ inferInstance (fun w' L' hL' hw' => hbnd _ _ w' (hL'.row (i := 1000) rfl hw')) ?_))) | ((with_reducible show CallP _ _ _ _ _ _ _ _); (with_reducible show CallV _ _ _ _ _ _ _ _); (first | (refine CallV.pure _ inferInstance (fun w' L' hL' hw' => hval w' (hL'.row (i := 1000) rfl hw')) ?_) | (refine CallV.pure _ inferInstance (fun w' L' hL' hw' => hbnd _ _ w' (hL'.row (i := 1000) rfl hw')) ?_))) | (with_reducible exact trivial) | (with_reducible exact fun _ _ => trivial) | ((with_reducible show Known _ _ _ _ _ _ _ _); (fail "not known")) | (fail "no more")))))
        show AgainV _ _ _ _ _ _ _ _ _ _ _ _ _; refine AgainV.mk (i + 1, o') ⟨by dsimp only; omega, hR', ho'⟩ (by dsimp only; omega) ?_ ?_ ?_ ?_ rfl <;> (repeat' (first | (exact trivial) | (exact rfl) | (refine And.intro ?_ ?_) | (exact fun _ _ => ⟨rfl, rfl⟩) | omega))
    · rw [List.drop_of_length_le (by omega), wOut] at hR
      rw [hR]
      cases o with
      | none =>
        have e1 : oA none < 0 := by decide
        (repeat' (first | ((with_reducible show drawB _ _ = true); kernel_rfl) | ((with_reducible show anyB _ = true); kernel_rfl) | ((with_reducible show _ = _); first | exact rfl | omega | assumption) | ((with_reducible show (_ : Int) ≤ _); first | omega | (exact bytes_leZ (by decide) (by omega) (by omega))) | ((with_reducible show (_ : Int) < _); omega) | ((with_reducible show (_ : Nat) ≤ _); first | omega | (simp only [addn]; omega) | (refine bytes_le (by decide) ?_; omega)) | ((with_reducible show (_ : Nat) < _); first | assumption | omega | (simp only [addn]; omega)) | (with_reducible exact trivial) | ((try (conv => whnf)); (first | (with_reducible refine And.intro ?_ ?_) | ((with_reducible show spl _ _); first | (refine spl_t (by first | omega | assumption | exact rfl) ?_) | (refine spl_f (by first | omega | assumption | (intro h; cases h; done)) ?_) | (refine spl_i (fun _ => ?_) (fun _ => ?_))) | ((with_reducible show spln _ _); first | (refine spln_t (by first | omega | assumption | exact rfl) ?_) | (refine spln_f (by first | omega | assumption | (intro h; cases h; done)) ?_) | (refine spln_i (fun _ => ?_) (fun _ => ?_))) | (with_reducible refine fun h : (_ : Int) = _ => absurd h (by omega)) | (with_reducible refine fun h : (_ : Nat) = _ => absurd h (by omega)) | (with_reducible intro _) | (with_reducible refine QuoV.pos (by omega) ?_) | (with_reducible refine RemV.pos (by omega) ?_) | ((with_reducible show IxV _ _); first | (refine IxV.nat _ rfl ?_) | (refine IxV.gen ?_)) | ((with_reducible show CallV _ _ _ _ _ _ _ _); (with_reducible show CallV _ _ _ _ _ _ _ _); (first | (refine CallV.pure _ inferInstance (fun w' L' hL' hw' => hval w' (hL'.row (i := 1000) rfl hw')) ?_) | (refine CallV.pure _ inferInstance (fun w' L' hL' hw' => hbnd _ _ w' (hL'.row (i := 1000) rfl hw')) ?_))) | ((with_reducible show CallP _ _ _ _ _ _ _ _); (with_reducible show CallV _ _ _ _ _ _ _ _); (first | (refine CallV.pure _ inferInstance (fun w' L' hL' hw' => hval w' (hL'.row (i := 1000) rfl hw')) ?_) | (refine CallV.pure _ inferInstance (fun w' L' hL' hw' => hbnd _ _ w' (hL'.row (i := 1000) rfl hw')) ?_))) | (with_reducible exact trivial) | (with_reducible exact fun _ _ => trivial) | ((with_reducible show Known _ _ _ _ _ _ _ _); (fail "not known")) | (fail "no more")))))
        (first | (refine FinV.t rfl ?_; omega) | (refine FinV.f rfl ?_; omega) | (refine FinV.pure ?_; rfl))
      | some m =>
        have e1 := ho m rfl
        have e2 : oA (some m) = m.1 := rfl
        rw [e2]
        (repeat' (first | ((with_reducible show drawB _ _ = true); kernel_rfl) | ((with_reducible show anyB _ = true); kernel_rfl) | ((with_reducible show _ = _); first | exact rfl | omega | assumption) | ((with_reducible show (_ : Int) ≤ _); first | omega | (exact bytes_leZ (by decide) (by omega) (by omega))) | ((with_reducible show (_ : Int) < _); omega) | ((with_reducible show (_ : Nat) ≤ _); first | omega | (simp only [addn]; omega) | (refine bytes_le (by decide) ?_; omega)) | ((with_reducible show (_ : Nat) < _); first | assumption | omega | (simp only [addn]; omega)) | (with_reducible exact trivial) | ((try (conv => whnf)); (first | (with_reducible refine And.intro ?_ ?_) | ((with_reducible show spl _ _); first | (refine spl_t (by first | omega | assumption | exact rfl) ?_) | (refine spl_f (by first | omega | assumption | (intro h; cases h; done)) ?_) | (refine spl_i (fun _ => ?_) (fun _ => ?_))) | ((with_reducible show spln _ _); first | (refine spln_t (by first | omega | assumption | exact rfl) ?_) | (refine spln_f (by first | omega | assumption | (intro h; cases h; done)) ?_) | (refine spln_i (fun _ => ?_) (fun _ => ?_))) | (with_reducible refine fun h : (_ : Int) = _ => absurd h (by omega)) | (with_reducible refine fun h : (_ : Nat) = _ => absurd h (by omega)) | (with_reducible intro _) | (with_reducible refine QuoV.pos (by omega) ?_) | (with_reducible refine RemV.pos (by omega) ?_) | ((with_reducible show IxV _ _); first | (refine IxV.nat _ rfl ?_) | (refine IxV.gen ?_)) | ((with_reducible show CallV _ _ _ _ _ _ _ _); (with_reducible show CallV _ _ _ _ _ _ _ _); (first | (refine CallV.pure _ inferInstance (fun w' L' hL' hw' => hval w' (hL'.row (i := 1000) rfl hw')) ?_) | (refine CallV.pure _ inferInstance (fun w' L' hL' hw' => hbnd _ _ w' (hL'.row (i := 1000) rfl hw')) ?_))) | ((with_reducible show CallP _ _ _ _ _ _ _ _); (with_reducible show CallV _ _ _ _ _ _ _ _); (first | (refine CallV.pure _ inferInstance (fun w' L' hL' hw' => hval w' (hL'.row (i := 1000) rfl hw')) ?_) | (refine CallV.pure _ inferInstance (fun w' L' hL' hw' => hbnd _ _ w' (hL'.row (i := 1000) rfl hw')) ?_))) | (with_reducible exact trivial) | (with_reducible exact fun _ _ => trivial) | ((with_reducible show Known _ _ _ _ _ _ _ _); (fail "not known")) | (fail "no more")))))
        (first | (refine FinV.t rfl ?_; omega) | (refine FinV.f rfl ?_; omega) | (refine FinV.pure ?_; rfl))
  · rw [if_neg g]
    rw [decide_eq_false g] at hval
    (repeat' (first | ((with_reducible show drawB _ _ = true); kernel_rfl) | ((with_reducible show anyB _ = true); kernel_rfl) | ((with_reducible show _ = _); first | exact rfl | omega | assumption) | ((with_reducible show (_ : Int) ≤ _); first | omega | (exact bytes_leZ (by decide) (by omega) (by omega))) | ((with_reducible show (_ : Int) < _); omega) | ((with_reducible show (_ : Nat) ≤ _); first | omega | (simp only [addn]; omega) | (refine bytes_le (by decide) ?_; omega)) | ((with_reducible show (_ : Nat) < _); first | assumption | omega | (simp only [addn]; omega)) | (with_reducible exact trivial) | ((try (conv => whnf)); (first | (with_reducible refine And.intro ?_ ?_) | ((with_reducible show spl _ _); first | (refine spl_t (by first | omega | assumption | exact rfl) ?_) | (refine spl_f (by first | omega | assumption | (intro h; cases h; done)) ?_) | (refine spl_i (fun _ => ?_) (fun _ => ?_))) | ((with_reducible show spln _ _); first | (refine spln_t (by first | omega | assumption | exact rfl) ?_) | (refine spln_f (by first | omega | assumption | (intro h; cases h; done)) ?_) | (refine spln_i (fun _ => ?_) (fun _ => ?_))) | (with_reducible refine fun h : (_ : Int) = _ => absurd h (by omega)) | (with_reducible refine fun h : (_ : Nat) = _ => absurd h (by omega)) | (with_reducible intro _) | (with_reducible refine QuoV.pos (by omega) ?_) | (with_reducible refine RemV.pos (by omega) ?_) | ((with_reducible show IxV _ _); first | (refine IxV.nat _ rfl ?_) | (refine IxV.gen ?_)) | ((with_reducible show CallV _ _ _ _ _ _ _ _); (with_reducible show CallV _ _ _ _ _ _ _ _); (first | (refine CallV.pure _ inferInstance (fun w' L' hL' hw' => hval w' (hL'.row (i := 1000) rfl hw')) ?_) | (refine CallV.pure _ inferInstance (fun w' L' hL' hw' => hbnd _ _ w' (hL'.row (i := 1000) rfl hw')) ?_))) | ((with_reducible show CallP _ _ _ _ _ _ _ _); (with_reducible show CallV _ _ _ _ _ _ _ _); (first | (refine CallV.pure _ inferInstance (fun w' L' hL' hw' => hval w' (hL'.row (i := 1000) rfl hw')) ?_) | (refine CallV.pure _ inferInstance (fun w' L' hL' hw' => hbnd _ _ w' (hL'.row (i := 1000) rfl hw')) ?_))) | (with_reducible exact trivial) | (with_reducible exact fun _ _ => trivial) | ((with_reducible show Known _ _ _ _ _ _ _ _); (fail "not known")) | (fail "no more")))))
    (first | (refine FinV.t rfl ?_; omega) | (refine FinV.f rfl ?_; omega) | (refine FinV.pure ?_; rfl))
end Go.Proofs.Ytikaonfnaobciaa
