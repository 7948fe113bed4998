/- Functions entered and left; loops. -/
import Derived.Test.YtikaonfnaobciaaVf
namespace Go.Proofs.Ytikaonfnaobciaa
open Go.RowKit
set_option linter.unusedVariables false
set_option linter.unusedSimpArgs false

/-! ### The same, and less -/
def sameS (s u : SV) : Prop := match s, u with
  | .int q m, .int q' n => q = q' ∧ m = n
  | .bool a, .bool b => a = b
  | s, u => s = u
theorem sameS_eq {s u : SV} (h : sameS s u) : s = u := by
  unfold sameS at h
  split at h
  · rw [h.1, h.2]
  · rw [h]
  · exact h
def sameL : List SV → List SV → Prop
  | [], [] => True
  | s :: l, u :: m => sameS s u ∧ sameL l m
  | _, _ => False
theorem sameL_eq : ∀ {l m : List SV}, sameL l m → l = m
  | [], [], _ => rfl
  | s :: l, u :: m, h => by rw [sameS_eq h.1, sameL_eq h.2]
  | [], _ :: _, h => h.elim
  | _ :: _, [], h => h.elim
def subE : SEnv → SEnv → Prop
  | [], _ => True
  | x :: r, E => match lk E x.1 with
    | some u => sameS x.2 u ∧ subE r E
    | none => False
theorem subE_ok : ∀ {A E : SEnv}, subE A E → Sub (venv A) (venv E)
  | [], _, _ => Sub.nil _
  | x :: r, E, h => by
    unfold subE at h
    split at h
    · rename_i u hu
      exact Sub.cons (by rw [look_venv, hu, sameS_eq h.1]; rfl) (subE_ok h.2)
    · exact h.elim
theorem subE_app : ∀ {A B E : SEnv}, subE A E → subE B E → subE (A ++ B) E
  | [], _, _, _, h => h
  | x :: r, B, E, h, h2 => by
    simp only [List.cons_append, subE] at h ⊢
    split at h
    · exact ⟨h.1, subE_app h.2 h2⟩
    · exact h.elim

/-- The same cells. -/
def sameE (s u : SV) : Prop := SV.vals s.cs = SV.vals u.cs ∧ s.cs.length = u.cs.length
theorem sameE.of {s u : SV} (h : s = u) : sameE s u := by rw [h]; exact ⟨rfl, rfl⟩
def sameA (a c : AO) : Prop := match a, c with
  | .cells b l T, .cells b' l' T' => b = b' ∧ T = T' ∧ sameL l l'
  | .row own p n T len cap f, .row own' p' n' T' len' cap' f' => own = own' ∧ p = p' ∧ n = n' ∧ T = T' ∧ len = len' ∧ cap = cap' ∧ ∀ j, j < len → sameE (f j) (f' j)
  | a, c => a = c
theorem sameA_ok {w0 : World} {X : List Nat} {a c : AO} {M : List (Nat × Obj)} (h : sameA a c) (hc : EntR w0 X c M) : EntR w0 X a M := by
  unfold sameA at h
  split at h
  · obtain ⟨rfl, rfl, h⟩ := h
    rw [sameL_eq h]; exact hc
  · obtain ⟨rfl, rfl, rfl, rfl, rfl, rfl, h⟩ := h
    cases hc with
    | own hr =>
      refine .own ?_
      rcases hr with h0 | ⟨b, cur, h1, h2, h3, h4, h5, h6⟩
      · exact .inl h0
      · exact .inr ⟨b, cur, h1, h2, h3, h4, h5, fun j hj => ⟨by rw [(h j hj).1]; exact (h6 j hj).1, by rw [(h j hj).2]; exact (h6 j hj).2⟩⟩
    | ext hr hX => exact .ext (fun j hj => ⟨(hr j hj).1, by rw [(h j hj).1]; exact (hr j hj).2.1, by rw [(h j hj).2]; exact (hr j hj).2.2⟩) hX
  · rw [h]; exact hc

def subH : Heap → Heap → Prop
  | [], _ => True
  | x :: r, H => match lkH H x.1 with
    | some a => sameA x.2 a ∧ subH r H
    | none => False
theorem subH_erase : ∀ {A H : Heap} {i : Nat}, freshB A i = true → subH A H → subH A (eraseH H i)
  | [], _, _, _, _ => trivial
  | x :: r, H, i, hf, h => by
    simp only [freshB] at hf
    split at hf
    · cases hf
    · rename_i hb
      simp only [subH] at h ⊢
      rw [lkH_erase hb]
      split at h
      · rename_i a ha
        exact ⟨h.1, subH_erase hf h.2⟩
      · exact h.elim
theorem subH_ok {w0 : World} {X : List Nat} : ∀ {A H : Heap} {L : List (Nat × Obj)}, distinctB A = true → subH A H → HR w0 X H L → ∃ L' R, HR w0 X A L' ∧ L.Perm (L' ++ R)
  | [], H, L, _, _, _ => ⟨[], L, .nil, .refl _⟩
  | x :: r, H, L, hd, h, hL => by
    simp only [distinctB] at hd
    split at hd
    · rename_i hf
      simp only [subH] at h
      split at h
      · rename_i a ha
        obtain ⟨M, A, h1, h2, h3⟩ := hL.erase ha
        obtain ⟨L', R, h4, h5⟩ := subH_ok hd (subH_erase hf h.2) h2
        refine ⟨M ++ L', R, .cons (sameA_ok h.1 h1) h4, h3.trans ?_⟩
        rw [List.append_assoc]
        exact List.Perm.append_left M h5
      · exact h.elim
    · cases hd
theorem subH_wd {w0 : World} {X D : List Nat} {A H : Heap} {L : List (Nat × Obj)} (hd : distinctB A = true) (h : subH A H) (hL : HR w0 X H L) : ∃ L', HR w0 X A L' ∧ ∀ w, Wd ⟨w0, X, L, D⟩ w → Wd ⟨w0, X, L', D⟩ w := by
  obtain ⟨L', R, h1, h2⟩ := subH_ok hd h hL
  exact ⟨L', h1, fun w hw => (hw.perm h2).sub (List.sublist_append_left _ _)⟩
/-- A row goes into the bag. -/
theorem HR.join {w0 : World} {X : List Nat} {H : Heap} {L Ls : List (Nat × Obj)} {i bg n T len cap : Nat} {p : Option Addr} {f : Nat → SV} (hL : HR w0 X H L) (h1 : lkH H i = some (.row true p n T len cap f)) (h2 : lkH H bg = some (.bag Ls)) (hne : Nat.beq bg i = false) :
    ∃ M L', OwnRow p n T len cap f M ∧ HR w0 X ((bg, .bag (M ++ Ls)) :: eraseH (eraseH H i) bg) L' ∧ L.Perm L' := by
  obtain ⟨M, A, h3, h4, h5⟩ := hL.erase h1
  have h2' : lkH (eraseH H i) bg = some (.bag Ls) := by rw [lkH_erase hne]; exact h2
  obtain ⟨M2, A2, h6, h7, h8⟩ := h4.erase h2'
  cases h3 with
  | own h3 =>
  cases h6
  refine ⟨M, (M ++ Ls) ++ A2, h3, .cons .bag h7, h5.trans ?_⟩
  rw [List.append_assoc]
  exact List.Perm.append_left M h8
theorem VSt.sub {N : Nat} {w0 : World} {X : List Nat} {E E' : SEnv} {H H' : Heap} {D : List Nat} {φ : Act → World → Prop} (hd : distinctB H' = true) (hH : subH H' H) (hE : subE E' E) (h : VSt N w0 X E' H' D φ) : VSt N w0 X E H D φ := fun L hL a w ha hw => by
  obtain ⟨L', h1, h2⟩ := subH_wd (D := D) hd hH hL
  exact h L' h1 a w (ha.sub (subE_ok hE)) (h2 w hw)

/-! ### Loops -/
def pickE (E : SEnv) : List Nat → (SEnv → Prop) → Prop
  | [], k => k []
  | t :: r, k => match lk E t with
    | some s => pickE E r fun E' => k ((t, s) :: E')
    | none => False
def pickH (H : Heap) : List Nat → (Heap → Prop) → Prop
  | [], k => k []
  | t :: r, k => match lkH H t with
    | some a => pickH H r fun H' => k ((t, a) :: H')
    | none => False
theorem sameS_refl (s : SV) : sameS s s := by unfold sameS; split <;> simp_all
theorem sameL_refl : ∀ l : List SV, sameL l l
  | [] => trivial
  | s :: l => ⟨sameS_refl s, sameL_refl l⟩
theorem sameA_refl (a : AO) : sameA a a := by
  cases a with
  | cells b l T => exact ⟨rfl, rfl, sameL_refl l⟩
  | row => exact ⟨rfl, rfl, rfl, rfl, rfl, rfl, fun _ _ => ⟨rfl, rfl⟩⟩
  | _ => rfl
theorem pickE_ok {E : SEnv} : ∀ {ts : List Nat} {k : SEnv → Prop}, pickE E ts k → ∃ E', k E' ∧ subE E' E
  | [], k, h => ⟨[], h, trivial⟩
  | t :: r, k, h => by
    unfold pickE at h
    split at h
    · rename_i s hs
      obtain ⟨E', h1, h2⟩ := pickE_ok h
      exact ⟨_, h1, by simp only [subE, hs]; exact ⟨sameS_refl s, h2⟩⟩
    · exact h.elim
theorem pickH_ok {H : Heap} : ∀ {ts : List Nat} {k : Heap → Prop}, pickH H ts k → ∃ H', k H' ∧ subH H' H
  | [], k, h => ⟨[], h, trivial⟩
  | t :: r, k, h => by
    unfold pickH at h
    split at h
    · rename_i s hs
      obtain ⟨E', h1, h2⟩ := pickH_ok h
      exact ⟨_, h1, by simp only [subH, hs]; exact ⟨sameA_refl s, h2⟩⟩
    · exact h.elim
theorem subH_app : ∀ {A B H : Heap}, subH A H → subH B H → subH (A ++ B) H
  | [], _, _, _, h => h
  | x :: r, B, E, h, h2 => by
    simp only [List.cons_append, subH] at h ⊢
    split at h
    · exact ⟨h.1, subH_app h.2 h2⟩
    · exact h.elim

/-- The round's end: another state of the loop's. -/
def AgainV {ι : Type} (w0 : World) (X : List Nat) (A : ι → SEnv) (E' : SEnv) (HB : ι → Heap) (H' : Heap) (D : List Nat) (I : ι → Prop) (μ : ι → Nat) (m : Nat) (E2 : SEnv) (H2 : Heap) (D2 : List Nat) : Prop :=
  ∀ L2, HR w0 X H2 L2 → ∃ j L', (I j ∧ μ j < m) ∧ subE (A j) E2 ∧ subE E' E2 ∧ HR w0 X (HB j ++ H') L' ∧ (∀ w, Wd ⟨w0, X, L2, D2⟩ w → Wd ⟨w0, X, L', D⟩ w) ∧ D2 = D
section
variable {ι : Type} {w0 : World} {X : List Nat} {A : ι → SEnv} {E' : SEnv} {HB : ι → Heap} {H' : Heap} {D : List Nat} {I : ι → Prop} {μ : ι → Nat} {m : Nat} {E2 : SEnv} {H2 : Heap} {D2 : List Nat}
theorem AgainV.mk (j : ι) (h1 : I j) (h2 : μ j < m) (h3 : subE (A j) E2) (h4 : subE E' E2) (h5 : subH (HB j) H2) (h6 : subH H' H2) (h7 : D2 = D) (hd : distinctB (HB j ++ H') = true := by rfl) : AgainV w0 X A E' HB H' D I μ m E2 H2 D2 := fun L2 hL2 => by
  obtain ⟨L', h8, h9⟩ := subH_wd (D := D2) hd (subH_app h5 h6) hL2
  exact ⟨j, L', ⟨h1, h2⟩, h3, h4, h8, fun w hw => h7 ▸ h9 w hw, h7⟩
theorem AgainV.sem (h : ∀ L2, HR w0 X H2 L2 → ∃ j L', (I j ∧ μ j < m) ∧ subE (A j) E2 ∧ subE E' E2 ∧ HR w0 X (HB j ++ H') L' ∧ (∀ w, Wd ⟨w0, X, L2, D2⟩ w → Wd ⟨w0, X, L', D⟩ w) ∧ D2 = D) : AgainV w0 X A E' HB H' D I μ m E2 H2 D2 := h
end

section
variable {P : Program} {T : Tr} {N : Nat} {w0 : World} {X : List Nat} {r : Option Nat} {hand : Modes} {c : Code} {k : Exit → SEnv → Heap → List Nat → Prop} {E : SEnv} {H : Heap} {D : List Nat}

theorem LoopV.mk (hT : T.All P) (hm : P.follows .mixedOrders = true) (hand : Modes) {ι : Type} (ts is : List Nat) (A : ι → SEnv) (HB : ι → Heap) (I : ι → Prop) (μ : ι → Nat) (i₀ : ι)
    (hI : I i₀) (hE : subE (A i₀) E) (hH : subH (HB i₀) H) (h : pickE E ts fun E' => pickH H is fun H' => (distinctB (HB i₀ ++ H') = true) ∧ ∀ i, I i → vcode P T N w0 X r hand c (thenK (AgainV w0 X A E' HB H' D I μ (μ i)) k) (A i ++ E') (HB i ++ H') D) :
    LoopV P N w0 X r c k E H D := by
  obtain ⟨E', h, hE'⟩ := pickE_ok h
  obtain ⟨H', ⟨hdis, h⟩, hH'⟩ := pickH_ok h
  intro Q hk L hL
  obtain ⟨L0, hL0, hw0⟩ := subH_wd (D := D) hdis (subH_app hH hH') hL
  refine St.loop (ι := ι × List (Nat × Obj)) (fun x => venv (A x.1 ++ E')) (fun x => ⟨w0, X, x.2, D⟩) (fun _ => D) (fun x => I x.1 ∧ HR w0 X (HB x.1 ++ H') x.2) (fun x => μ x.1) (i₀, L0) ⟨hI, hL0⟩ rfl (subE_ok (subE_app hE hE')) hw0 ?_
  rintro ⟨i, Li⟩ ⟨hi, hLi⟩
  refine vcode_ok hT hm (h i hi) _ ?_ Li hLi
  intro e E2 H2 D2 he
  cases e with
  | normal =>
    intro L2 hL2 a w ha hw
    obtain ⟨j, Lj, ⟨hj, hlt⟩, h1, h2, hLj, hwj, rfl⟩ := he L2 hL2
    exact ⟨(j, Lj), ⟨hj, hLj⟩, hlt, ha.sub (subE_ok (subE_app h1 h2)), hwj w hw⟩
  | exit i => exact hk _ _ _ _ he
  | goto l => exact hk _ _ _ _ he
  | ret => exact hk _ _ _ _ he
  | panic c => exact hk _ _ _ _ he
  | outgrown => exact hk _ _ _ _ he

/-- A loop of few rounds, one after the other. -/
def unrollV (P : Program) (T : Tr) (N : Nat) (w0 : World) (X : List Nat) (r : Option Nat) (hand : Modes) (c : Code) (k : Exit → SEnv → Heap → List Nat → Prop) : Nat → SEnv → Heap → List Nat → Prop
  | 0, _, _, _ => False
  | n + 1, E, H, D => vcode P T N w0 X r hand c (thenK (unrollV P T N w0 X r hand c k n) k) E H D
def rounds (P : Program) (r : Option Nat) (c : Code) (Q : Exit → Act → World → Prop) : Nat → Act → World → Prop
  | 0, _, _ => False
  | n + 1, a, w => c.wpIn (FR r) 0 P (Exit.then (rounds P r c Q n) Q) a w
theorem rounds_loop {Q : Exit → Act → World → Prop} (n : Nat) {a : Act} {w : World} (h : rounds P r c Q n a w) : (Code.loop c).wpIn (FR r) 0 P Q a w := by
  refine wpIn_loop_ghost (fun n a w => rounds P r c Q n a w) n h ?_
  intro n a w h
  cases n with
  | zero => exact h.elim
  | succ n =>
    refine Go.wpIn_mono h ?_
    intro e a2 w2 hq
    cases e with
    | normal => exact ⟨n, Nat.lt_succ_self n, hq⟩
    | exit id => exact hq
    | goto l => exact hq
    | ret => exact hq
    | panic ch => exact hq
    | outgrown => exact hq
theorem LoopV.unroll (hT : T.All P) (hm : P.follows .mixedOrders = true) (hand : Modes) (n : Nat) (h : unrollV P T N w0 X r hand c k n E H D) : LoopV P N w0 X r c k E H D := by
  intro Q hk
  have key : ∀ (n : Nat) {E : SEnv} {H : Heap} {D : List Nat}, unrollV P T N w0 X r hand c k n E H D → VSt N w0 X E H D (rounds P r c Q n) := by
    intro n
    induction n with
    | zero => intro E H D h; exact h.elim
    | succ n ih =>
      intro E H D h
      refine vcode_ok hT hm (show vcode P T N w0 X r hand c (thenK (unrollV P T N w0 X r hand c k n) k) E H D from h) _ ?_
      intro e E2 H2 D2 he
      cases e with
      | normal => exact ih he
      | exit i => exact hk _ _ _ _ he
      | goto l => exact hk _ _ _ _ he
      | ret => exact hk _ _ _ _ he
      | panic c => exact hk _ _ _ _ he
      | outgrown => exact hk _ _ _ _ he
  exact (key n h).mono fun a w h => rounds_loop n h
end

/-! ### Functions -/
def argS : Nat → List SV → SEnv
  | _, [] => []
  | n, s :: r => (n, s) :: argS (n + 1) r
theorem argS_venv : ∀ (l : List SV) (n : Nat), venv (argS n l) = argE n (SV.vals l)
  | [], _ => rfl
  | s :: r, n => by simp [argS, venv, SV.vals, argE, argS_venv r (n + 1)]

def resS (T : Tr) (E : SEnv) (H : Heap) : List ResultVar → (List SV → Prop) → Prop
  | [], k => k []
  | .tmp t :: r, k => match lk E t with
    | some s => resS T E H r fun l => k (s :: l)
    | none => False
  | .cell t ty :: r, k => match lk E t with
    | some (.ptr i b base o) => match T.get ty, lkH H i with
      | some ti, some (.cells b' l' _) => match Nat.ble (o + ti.size) l'.length with
        | true => b = b' ∧ base = 0 ∧ getC ti.agg l' o ti.size fun s => resS T E H r fun l => k (s :: l)
        | false => False
      | _, _ => False
    | _ => False
def oneS : List SV → SV
  | [s] => s
  | l => .tup l
theorem oneS_val (l : List SV) : (oneS l).val = oneOf (SV.vals l) := by
  match l with
  | [] => simp [oneS, SV.val, SV.vals, oneOf]
  | [s] => simp [oneS, SV.vals, oneOf]
  | _ :: _ :: _ => simp [oneS, SV.val, SV.vals, oneOf]

/-- What is handed back, and the memory behind. -/
def FinV (w0 : World) (X : List Nat) (R : Ending → World → Prop) (s : SV) (H : Heap) : Prop := ∀ L w, HR w0 X H L → Wd ⟨w0, X, L, []⟩ w → R (.returned s.val) w
def endK (T : Tr) (w0 : World) (X : List Nat) (rs : List ResultVar) (R : Ending → World → Prop) : Exit → SEnv → Heap → List Nat → Prop
  | .ret, E, H, _ => resS T E H rs fun l => FinV w0 X R (oneS l) H
  | .normal, E, H, _ => resS T E H rs fun l => FinV w0 X R (oneS l) H
  | _, _, _, _ => False

section
variable {P : Program} {T : Tr} {N : Nat} {w0 : World} {X : List Nat} {r : Option Nat} {hand : Modes} {E : SEnv} {H : Heap} {D : List Nat} {L : List (Nat × Obj)}

theorem resS_ok (hT : T.All P) (hL : HR w0 X H L) : ∀ {rs : List ResultVar} {k : List SV → Prop}, resS T E H rs k → ∃ l, k l ∧ Res P (venv E) L rs (SV.vals l)
  | [], k, h => ⟨[], h, .nil⟩
  | .tmp t :: rs, k, h => by
    unfold resS at h
    split at h
    · rename_i s hs
      obtain ⟨l, h1, h2⟩ := resS_ok hT hL h
      exact ⟨s :: l, h1, .tmp (by rw [look_venv, hs]; rfl) h2⟩
    · exact h.elim
  | .cell t ty :: rs, k, h => by
    unfold resS at h
    split at h
    · rename_i i b base o hs
      split at h
      · rename_i ti b' l' T' hti hl
        split at h
        case h_2 => exact h.elim
        rename_i hble
        have hble : o + ti.size ≤ l'.length := by simpa using hble
        obtain ⟨rfl, rfl, h⟩ := h
        have ht := Tr.get_ok hT hti
        have hlook : look (venv E) t = some (.pointer (some ⟨b, o, none⟩)) := by rw [look_venv, hs]; simp [SV.val]
        obtain ⟨M, A, hM, hperm, _⟩ := hL.split hl
        cases hM
        have hmem : (b, Obj.cells (SV.vals l').toArray T' (0, 0)) ∈ L := hperm.mem_iff.2 (List.mem_append_right _ (.head _))
        cases hag : ti.agg with
        | true =>
          rw [hag] at h
          simp only [getC] at h
          split at h
          · rename_i ws hws
            rw [nrm_iff] at h
            obtain ⟨h1, h2⟩ := takeS_eq hws
            rw [dropS_eq] at h2
            obtain ⟨l, h3, h4⟩ := resS_ok hT hL h
            have hval : (SV.agg ws).val = .agg ((SV.vals l').drop o |>.take ti.size).toArray := by simp [SV.val, vals_map, ← h2]
            refine ⟨.agg ws :: l, h3, ?_⟩
            simp only [SV.vals, hval]
            refine .agg (hu := hag ▸ ht.ag) (hz := ht.sz) hlook hmem (GetAt.of ?_) h4
            rw [vals_length]; exact hble
          · exact h.elim
        | false =>
          rw [hag] at h
          simp only [getC] at h
          split at h
          · rename_i s hs'
            rw [nthS_eq] at hs'
            obtain ⟨l, h3, h4⟩ := resS_ok hT hL (forceB_ok (k := fun s => resS T E H rs fun l => k (s :: l)) h)
            refine ⟨s :: l, h3, ?_⟩
            simp only [SV.vals]
            have hlt : o < l'.length := (List.getElem?_eq_some_iff.1 hs').1
            have := GetAt.of (o := o) (k := 1) (l := SV.vals l') (by rw [vals_length]; omega)
            have hg : ((SV.vals l').drop o).take 1 = [s.val] := by
              have h5 : (SV.vals l')[o]? = some s.val := by rw [vals_get, hs']; rfl
              have h6 : o < (SV.vals l').length := by rw [vals_length]; exact hlt
              rw [List.drop_eq_getElem_cons h6, List.take_succ_cons, List.take_zero]
              rw [List.getElem?_eq_getElem h6] at h5
              simpa using h5
            rw [hg] at this
            exact .one (hu := hag ▸ ht.ag) hlook hmem this h4
          · exact h.elim
      · exact h.elim
    · exact h.elim

theorem V.fn {kf : Nat} {fn : Func} {c : Code} {rs : List ResultVar} {args : List SV} {R : Ending → World → Prop} {w : World} (hT : T.All P) (hm : P.follows .mixedOrders = true) (hand : Modes) (hf : P.funcs[kf]? = some fn) (hb : fn.body = some c) (hN : fn.ntmps = N) (hl : Nat.ble args.length N = true) (hrs : fn.results = rs.toArray)
    (hL : HR w0 X H L) (hw : Wd ⟨w0, X, L, []⟩ w) (h : vcode P T N w0 X none hand c (endK T w0 X rs R) (argS 0 args) H []) : Calls P kf (SV.vals args).toArray w R := by
  refine enter (S := ⟨w0, X, L, []⟩) hf hb hN (by rw [vals_length]; exact hl) hw ?_
  rw [← argS_venv]
  refine vcode_ok hT hm h _ ?_ L hL
  intro e E' H' D' he
  have key : (resS T E' H' rs fun l => FinV w0 X R (oneS l) H') → ∀ L, HR w0 X H' L → ∃ vs, Res P (venv E') L rs vs ∧ ∀ w, Wd ⟨w0, X, L, []⟩ w → R (.returned (oneOf vs)) w := fun h L hL => by
    obtain ⟨l, h1, h2⟩ := resS_ok hT hL h
    exact ⟨_, h2, fun w hw => by rw [← oneS_val]; exact h1 L w hL hw⟩
  cases e with
  | ret =>
    intro L hL
    obtain ⟨vs, h1, h2⟩ := key he L hL
    exact St.leave0 hrs h1 h2
  | normal =>
    intro L hL
    obtain ⟨vs, h1, h2⟩ := key he L hL
    exact St.leave_end0 hrs h1 h2
  | exit i => exact he.elim
  | goto l => exact he.elim
  | panic c => exact he.elim
  | outgrown => exact he.elim

/-- A function that turns nothing and hands a value back. -/
theorem V.pure {kf : Nat} {fn : Func} {c : Code} {rs : List ResultVar} {args : List SV} {v : Value} {w : World} (hT : T.All P) (hm : P.follows .mixedOrders = true) (hand : Modes) (hf : P.funcs[kf]? = some fn) (hb : fn.body = some c) (hN : fn.ntmps = N) (hl : Nat.ble args.length N = true) (hrs : fn.results = rs.toArray)
    (hL : HR w [] H []) (h : vcode P T N w [] none hand c (endK T w [] rs fun e w' => e = .returned v ∧ Kp [] w w') (argS 0 args) H []) : Pure_ P kf (SV.vals args) v w :=
  V.fn hT hm hand hf hb hN hl hrs hL (wd_start w) h
theorem FinV.t {w : World} {s : SV} {p : Prop} [Decidable p] (hs : s = .bool true) (h : p) : FinV w [] (fun e w' => e = .returned (.bool (decide p)) ∧ Kp [] w w') s H := fun _ _ _ hw => ⟨by rw [hs, decide_eq_true h]; rfl, hw.kp⟩
theorem FinV.f {w : World} {s : SV} {p : Prop} [Decidable p] (hs : s = .bool false) (h : ¬ p) : FinV w [] (fun e w' => e = .returned (.bool (decide p)) ∧ Kp [] w w') s H := fun _ _ _ hw => ⟨by rw [hs, decide_eq_false h]; rfl, hw.kp⟩
theorem FinV.pure {w : World} {s : SV} {v : Value} (h : s.val = v) : FinV w [] (fun e w' => e = .returned v ∧ Kp [] w w') s H := fun _ _ _ hw => ⟨by rw [h], hw.kp⟩

theorem CallV.pure {fk : Nat} {fn : Func} {args : List SV} {k : SV → Heap → Prop} (v : SV) (hF : FN P fk fn) (hc : ∀ w L, HR w0 X H L → Wd ⟨w0, X, L, D⟩ w → Pure_ P fk (SV.vals args) v.val w) (h : k v H) : CallV P w0 X D H fk args k :=
  ⟨Unit, fun _ => True, fun _ => v, fun _ => H, fn, hF, fun w L hL hw => Calls.mono (hc w L hL hw) fun e w' ⟨he, hk⟩ => ⟨(), L, he, trivial, hL, hw.kept hk⟩, fun _ _ => h⟩
theorem CallP.mk {fk : Nat} {fn : Func} {args : List SV} {k : SV → Prop} (v : SV) (hF : FN P fk fn) (hc : ∀ w L, HR w0 X H L → Wd ⟨w0, X, L, D⟩ w → Pure_ P fk (SV.vals args) v.val w) (h : k v) : CallP P w0 X D H fk args k := ⟨v, fn, hF, hc, h⟩
/-- .. whether p is so. -/
theorem CallV.dec {fk : Nat} {fn : Func} {args : List SV} {k : SV → Heap → Prop} (p : Prop) [d : Decidable p] (hF : FN P fk fn) (hc : ∀ w L, HR w0 X H L → Wd ⟨w0, X, L, D⟩ w → Pure_ P fk (SV.vals args) (.bool (decide p)) w) (h : spl p fun s => k s H) : CallV P w0 X D H fk args k :=
  CallV.pure (.bool (decide p)) hF hc (spl_ok h)
theorem CallP.dec {fk : Nat} {fn : Func} {args : List SV} {k : SV → Prop} (p : Prop) [d : Decidable p] (hF : FN P fk fn) (hc : ∀ w L, HR w0 X H L → Wd ⟨w0, X, L, D⟩ w → Pure_ P fk (SV.vals args) (.bool (decide p)) w) (h : spl p k) : CallP P w0 X D H fk args k :=
  CallP.mk (.bool (decide p)) hF hc (spl_ok h)
end
end Go.Proofs.Ytikaonfnaobciaa
