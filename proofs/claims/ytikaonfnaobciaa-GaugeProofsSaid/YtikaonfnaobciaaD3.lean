/- The reference's best: the walk. -/
import Derived.Test.YtikaonfnaobciaaD2
namespace Go.Proofs.Ytikaonfnaobciaa
open Go.RowKit
attribute [local irreducible] spl spln QuoV RemV AggEq CallV CallP LoopV RangeV RegionV FinV AgainV Known IxV
set_option maxRecDepth 100000
set_option linter.unusedVariables false
set_option linter.unusedSimpArgs false

structure Bs where
  sm : List Int
  cs : Chs
  dn : List Bool
def pkF (l : List Ga) (dn : List Bool) : Nat → Option Nat
  | 0 => none
  | i + 1 => if dn.getD i true = false ∧ (∀ m, pkF l dn i = some m → (l.getD m ga0).f < (l.getD i ga0).f) then some i else pkF l dn i
theorem pkF_spec {l : List Ga} {dn : List Bool} : ∀ {i m : Nat}, pkF l dn i = some m → m < i ∧ dn.getD m true = false
  | 0, _, h => by cases h
  | i + 1, m, h => by
    simp only [pkF] at h
    split at h
    · rename_i hc; simp at h; subst h; exact ⟨by omega, hc.1⟩
    · have := pkF_spec h; exact ⟨by omega, this.2⟩
theorem pkF_some {l : List Ga} {dn : List Bool} : ∀ {i j : Nat}, j < i → dn.getD j true = false → ∃ m, pkF l dn i = some m
  | 0, j, h, _ => by omega
  | i + 1, j, h, hd => by
    simp only [pkF]
    split
    · exact ⟨i, rfl⟩
    · rename_i hc
      by_cases e : j = i
      · subst e
        cases hq : pkF l dn j with
        | none => exact absurd ⟨hd, fun m hm => by rw [hq] at hm; cases hm⟩ hc
        | some m => exact ⟨m, rfl⟩
      · exact pkF_some (by omega) hd
def stepR (l : List Ga) (b : Int) (high : Bool) (s : Bs) : Bs := match pkF l s.dn l.length with
  | none => s
  | some q => if (l.getD q ga0).t = b then ⟨s.sm.set q (sideS (l.getD q ga0) high), s.cs.set q (some [(q : Int)]), s.dn.set q true⟩
    else match firstS l (l.getD q ga0).t s.sm s.cs with
      | none => ⟨s.sm, s.cs, s.dn.set q true⟩
      | some r => ⟨s.sm.set q (sideS (l.getD q ga0) high + r.1), s.cs.set q (some ((q : Int) :: r.2)), s.dn.set q true⟩
def iterR (l : List Ga) (b : Int) (high : Bool) : Nat → Bs
  | 0 => ⟨List.replicate l.length 0, List.replicate l.length none, List.replicate l.length false⟩
  | k + 1 => stepR l b high (iterR l b high k)
def bestR (l : List Ga) (a b : Int) (high : Bool) : Option (Int × List Int) := firstS l a (iterR l b high l.length).sm (iterR l b high l.length).cs

structure BsOk (n k : Nat) (s : Bs) : Prop where
  l1 : s.sm.length = n
  l2 : s.cs.length = n
  l3 : s.dn.length = n
  cnt : s.dn.count true = k
  bd : ∀ j, -(4000000000 * (k : Int)) ≤ s.sm.getD j 0 ∧ s.sm.getD j 0 ≤ 4000000000 * (k : Int)
  ch : ∀ j, (chL s.cs j).length ≤ k
  pos : ∀ j xs, s.cs.getD j none = some xs → xs ≠ []

theorem count_setT {dn : List Bool} {q : Nat} (h : dn.getD q true = false) : (dn.set q true).count true = dn.count true + 1 := by
  have hq : q < dn.length := by
    rcases Nat.lt_or_ge q dn.length with h1 | h1
    · exact h1
    · rw [List.getD_eq_getElem?_getD, List.getElem?_eq_none h1] at h; simp at h
  have h2 : dn[q] = false := by simpa [List.getD_eq_getElem?_getD, hq] using h
  rw [List.count_set hq]
  simp [h2]
theorem count_some {dn : List Bool} (h : dn.count true < dn.length) : ∃ j, j < dn.length ∧ dn.getD j true = false := by
  induction dn with
  | nil => simp at h
  | cons x r ih =>
    cases x with
    | false => exact ⟨0, by simp, rfl⟩
    | true =>
      simp at h
      obtain ⟨j, h1, h2⟩ := ih h
      exact ⟨j + 1, by simp; omega, by simpa using h2⟩
theorem getD_set_l {α : Type} {l : List α} {q j : Nat} {x d : α} (hq : q < l.length) : (l.set q x).getD j d = if j = q then x else l.getD j d := by
  by_cases e : j = q
  · subst e; simp [List.getD_eq_getElem?_getD, hq]
  · simp [List.getD_eq_getElem?_getD, List.getElem?_set_ne (Ne.symm e), e]
theorem chL_set {cs : Chs} {q j : Nat} {xs : List Int} (hq : q < cs.length) : chL (cs.set q (some xs)) j = if j = q then xs else chL cs j := by
  unfold chL; rw [getD_set_l hq]; split <;> rfl

theorem BsOk.set {n k q : Nat} {s : Bs} (h : BsOk n k s) (hq : q < n) (hd : s.dn.getD q true = false) {v : Int} {xs : List Int} (hv : -(4000000000 * ((k : Int) + 1)) ≤ v ∧ v ≤ 4000000000 * ((k : Int) + 1)) (hx : xs.length ≤ k + 1) (hn : xs ≠ []) :
    BsOk n (k + 1) ⟨s.sm.set q v, s.cs.set q (some xs), s.dn.set q true⟩ := by
  refine ⟨by simp [h.l1], by simp [h.l2], by simp [h.l3], by rw [count_setT hd, h.cnt], fun j => ?_, fun j => ?_, fun j ys hj => ?_⟩
  · have := h.bd j
    rw [getD_set_l (by rw [h.l1]; exact hq)]
    split <;> omega
  · have := h.ch j
    rw [chL_set (by rw [h.l2]; exact hq)]
    split <;> omega
  · rw [getD_set_l (by rw [h.l2]; exact hq)] at hj
    split at hj
    · simp at hj; subst hj; exact hn
    · exact h.pos j ys hj
theorem BsOk.skip {n k q : Nat} {s : Bs} (h : BsOk n k s) (hd : s.dn.getD q true = false) : BsOk n (k + 1) ⟨s.sm, s.cs, s.dn.set q true⟩ :=
  ⟨h.l1, h.l2, by simp [h.l3], by rw [count_setT hd, h.cnt], fun j => by have := h.bd j; dsimp only; omega, fun j => by have := h.ch j; dsimp only; omega, h.pos⟩
theorem sideS_bd {g : Ga} (hg : g.ok) (high : Bool) : -4000000000 ≤ sideS g high ∧ sideS g high ≤ 4000000000 := by
  obtain ⟨h1, h2, h3, h4, h5⟩ := hg
  unfold sideS; split <;> omega
theorem firstS_spec {l : List Ga} {a : Int} {sm : List Int} {cs : Chs} {r : Int × List Int} (h : firstS l a sm cs = some r) : ∃ m, m < l.length ∧ r = (sm.getD m 0, chL cs m) ∧ (l.getD m ga0).f = a := by
  simp only [firstS, Option.map_eq_some_iff] at h
  obtain ⟨m, hm, rfl⟩ := h
  exact ⟨m, (frF_spec hm).1, rfl, (frF_spec hm).2.1⟩
theorem getD_ok {l : List Ga} (hl : ∀ g ∈ l, g.ok) {q : Nat} (hq : q < l.length) : (l.getD q ga0).ok := by
  have : l.getD q ga0 = l[q] := by simp [List.getD_eq_getElem?_getD, hq]
  rw [this]; exact hl _ (List.getElem_mem hq)
theorem iterR_ok {l : List Ga} (hl : ∀ g ∈ l, g.ok) (b : Int) (high : Bool) : ∀ k, k ≤ l.length → BsOk l.length k (iterR l b high k)
  | 0, _ => ⟨by simp [iterR], by simp [iterR], by simp [iterR], by simp [iterR, List.count_replicate], fun j => by simp [iterR, List.getD_eq_getElem?_getD, List.getElem?_replicate]; split <;> simp, fun j => by simp [iterR, chL, List.getD_eq_getElem?_getD, List.getElem?_replicate]; split <;> simp, fun j xs h => by
      simp [iterR, List.getD_eq_getElem?_getD, List.getElem?_replicate] at h; split at h <;> simp at h⟩
  | k + 1, hk => by
    have ih := iterR_ok hl b high k (by omega)
    obtain ⟨j, hj1, hj2⟩ := count_some (dn := (iterR l b high k).dn) (by rw [ih.cnt, ih.l3]; omega)
    obtain ⟨q, hq⟩ := pkF_some (l := l) (i := l.length) (by rw [ih.l3] at hj1; exact hj1) hj2
    obtain ⟨hq1, hq2⟩ := pkF_spec hq
    have hsd := sideS_bd (getD_ok hl hq1) high
    simp only [iterR, stepR, hq]
    split
    · exact ih.set hq1 hq2 (by omega) (by simp) (by simp)
    · split
      · exact ih.skip hq2
      · rename_i r hr
        obtain ⟨m, hm, rfl, _⟩ := firstS_spec hr
        have h1 := ih.bd m
        have h2 := ih.ch m
        exact ih.set hq1 hq2 (by dsimp only; omega) (by dsimp only; simp; omega) (by simp)

/-! ### Where the chains lie -/
def bRow (dn : List Bool) : Nat → SV := fun j => .bool (dn.getD j true)
structure Bag (cs : Chs) (cp : Nat → Option Addr) (cl : Nat → Nat) (Ls : List (Nat × Obj)) : Prop where
  len : ∀ j, cl j = (chL cs j).length
  nil : ∀ j, cs.getD j none = none → cp j = none
  som : ∀ j xs, cs.getD j none = some xs → ∃ bk cur, cp j = some ⟨bk, 0, none⟩ ∧ (bk, Obj.cells (cur : List Value).toArray 3 (0, 0)) ∈ Ls ∧ ∀ i, i < xs.length → cur[i]? = some (.int .i64 (xs.getD i 0))
theorem Bag.at_ {cs : Chs} {cp : Nat → Option Addr} {cl : Nat → Nat} {Ls : List (Nat × Obj)} (h : Bag cs cp cl Ls) {w : World} (hw : ∀ p ∈ Ls, w.heap[p.1]? = some p.2) {k : Nat} (hch : ∀ j, (chL cs j).length ≤ k) (hk : k ≤ 1000) (hpos : ∀ j xs, cs.getD j none = some xs → xs ≠ []) : ChAt w cs cp cl := by
  refine ⟨h.len, h.nil, fun j xs hj => ?_, fun j i hi => ?_, fun j => Nat.le_trans (hch j) hk, hpos⟩
  · obtain ⟨bk, cur, h1, _⟩ := h.som j xs hj
    rw [h1]; simp
  · cases hj : cs.getD j none with
    | none => simp only [chL, hj, Option.getD_none, List.length_nil] at hi; omega
    | some xs =>
      obtain ⟨bk, cur, h1, h2, h3⟩ := h.som j xs hj
      have hx : chL cs j = xs := by simp only [chL, hj]; rfl
      rw [hx] at hi ⊢
      rw [h1]
      refine ⟨rfl, fun q v hq => ?_, rfl⟩
      have hq0 : q = 0 := by
        rcases q with _ | q
        · rfl
        · simp [iRow, SV.cs, SV.vals] at hq
      subst hq0
      have hv : v = .int .i64 (xs.getD i 0) := by simpa [iRow, SV.cs, SV.vals, SV.val] using hq.symm
      subst hv
      show w.cell? ⟨bk, 0 + i * 1 + 0, none⟩ = _
      rw [cell_own (hw _ h2)]
      simpa using h3 i hi
theorem Bag.set {cs : Chs} {cp : Nat → Option Addr} {cl : Nat → Nat} {Ls M : List (Nat × Obj)} (h : Bag cs cp cl Ls) {q : Nat} (hq : q < cs.length) {xs : List Int} {p : Option Addr} {cap : Nat} (hM : OwnRow p 1 3 xs.length cap (iRow xs) M) (hx : xs ≠ []) :
    Bag (cs.set q (some xs)) (fun j => if j = q then p else cp j) (fun j => if j = q then xs.length else cl j) (M ++ Ls) := by
  refine ⟨fun j => ?_, fun j hj => ?_, fun j ys hj => ?_⟩
  · rw [chL_set hq]; split
    · rfl
    · exact h.len j
  · rw [getD_set_l hq] at hj
    split at hj
    · cases hj
    · rename_i e; rw [if_neg e]; exact h.nil j hj
  · rw [getD_set_l hq] at hj
    split at hj
    · rename_i e
      simp only [Option.some.injEq] at hj; subst hj
      rcases hM with ⟨_, h0, _⟩ | ⟨bk, cur, rfl, rfl, hc, hl, _, hf⟩
      · exact absurd (List.length_eq_zero_iff.1 h0) hx
      · refine ⟨bk, cur, by rw [if_pos e], by simp, fun i hi => ?_⟩
        have := (hf i hi).1
        have h2 : i < cur.length := by omega
        rw [Nat.mul_one, List.drop_eq_getElem_cons h2, List.take_succ_cons, List.take_zero] at this
        simp only [iRow, SV.cs, SV.vals, SV.val, List.cons.injEq, and_true] at this
        rw [List.getElem?_eq_getElem h2, this]
    · rename_i e
      obtain ⟨bk, cur, h1, h2, h3⟩ := h.som j ys hj
      exact ⟨bk, cur, by rw [if_neg e]; exact h1, List.mem_append_right _ h2, h3⟩
theorem HR.own_bag {w0 : World} {X D : List Nat} {H : Heap} {L Ls : List (Nat × Obj)} {i : Nat} (hL : HR w0 X H L) (h : lkH H i = some (.bag Ls)) {w : World} (hw : Wd ⟨w0, X, L, D⟩ w) : ∀ p ∈ Ls, w.heap[p.1]? = some p.2 := fun p hp => hw.own p (hL.bag h hp)

theorem OwnRow.congr {p : Option Addr} {n T len cap : Nat} {f g : Nat → SV} {M : List (Nat × Obj)} (h : OwnRow p n T len cap f M) (he : ∀ j, j < len → sameE (g j) (f j)) : OwnRow p n T len cap g M := by
  rcases h with h0 | ⟨b, cur, h1, h2, h3, h4, h5, h6⟩
  · exact .inl h0
  · exact .inr ⟨b, cur, h1, h2, h3, h4, h5, fun j hj => ⟨by rw [(he j hj).1]; exact (h6 j hj).1, by rw [(he j hj).2]; exact (h6 j hj).2⟩⟩
theorem bRow_set {dn : List Bool} {q : Nat} (hq : q < dn.length) (j : Nat) : sameE (bRow (dn.set q true) j) (updF (bRow dn) q (.bool true) j) := by
  unfold bRow updF; rw [getD_set_l hq]; split <;> exact ⟨rfl, rfl⟩
theorem iRow_set {sm : List Int} {q : Nat} {v : Int} (hq : q < sm.length) (j : Nat) : sameE (iRow (sm.set q v) j) (updF (iRow sm) q (.int .i64 v) j) := by
  unfold iRow updF; rw [getD_set_l hq]; split <;> exact ⟨rfl, rfl⟩
theorem cRow_set (cp : Nat → Option Addr) (cl cc : Nat → Nat) (q i n c : Nat) (p : Option Addr) (j : Nat) : sameE (cRow (fun j => if j = q then p else cp j) (fun j => if j = q then n else cl j) (fun j => if j = q then c else cc j) j) (updF (cRow cp cl cc) q (.sl i p 1 none n c) j) := by
  unfold cRow updF; by_cases e : j = q <;> simp only [e, if_true, if_false] <;> exact ⟨rfl, rfl⟩
theorem iRow_cons (x : Int) (xs : List Int) (f : Nat → SV) (hf : f 0 = .int .i64 x) (j : Nat) : sameE (iRow (x :: xs) j) (appF 1 f (iRow xs) none j) := by
  unfold appF
  cases j with
  | zero => simp only [Nat.zero_lt_one, if_true]; rw [hf]; exact ⟨rfl, rfl⟩
  | succ j => rw [if_neg (by omega)]; exact ⟨rfl, rfl⟩
structure BG where
  k : Nat
  cp : Nat → Option Addr
  cl : Nat → Nat
  cc : Nat → Nat
  Ls : List (Nat × Obj)

theorem rbest_any (p : Option Addr) (c1 : Nat) (l : List Ga) (a b : Int) (high : Bool) (w : World) (hl : l.length ≤ 60) (hok : ∀ g ∈ l, g.ok) (h1 : RowAt w p 10 l.length (gRow l)) :
    New_ Try.prog 37 (SV.vals [.sl 1000 p 10 none l.length c1, .int .i64 a, .int .i64 b, .bool high])
      (fun _ : Nat × Nat => True) (resV 74 (bestR l a b high)) (resH 74 (bestR l a b high)) w := by
  refine V.new (H := [(1000, .row false p 10 26 l.length c1 (gRow l))]) tab_ok mixed [] Try.func37 rfl Try.ntmps37 rfl rfl (.cons (.ext h1 (by simp)) .nil) ?_
  (repeat' (first | ((with_reducible show drawB _ _ = true); kernel_rfl) | ((with_reducible show anyB _ = true); kernel_rfl) | ((with_reducible show _ = _); first | exact rfl | omega | assumption) | ((with_reducible show (_ : Int) ≤ _); first | omega | (exact bytes_leZ (by decide) (by omega) (by omega))) | ((with_reducible show (_ : Int) < _); omega) | ((with_reducible show (_ : Nat) ≤ _); first | omega | (simp only [addn]; omega) | (refine bytes_le (by decide) ?_; omega)) | ((with_reducible show (_ : Nat) < _); first | assumption | omega | (simp only [addn]; omega)) | (with_reducible exact trivial) | ((try (conv => whnf)); (first | (with_reducible refine And.intro ?_ ?_) | ((with_reducible show spl _ _); first | (refine spl_t (by first | omega | assumption | exact rfl) ?_) | (refine spl_f (by first | omega | assumption | (intro h; cases h; done)) ?_) | (refine spl_i (fun _ => ?_) (fun _ => ?_))) | ((with_reducible show spln _ _); first | (refine spln_t (by first | omega | assumption | exact rfl) ?_) | (refine spln_f (by first | omega | assumption | (intro h; cases h; done)) ?_) | (refine spln_i (fun _ => ?_) (fun _ => ?_))) | (with_reducible refine fun h : (_ : Int) = _ => absurd h (by omega)) | (with_reducible refine fun h : (_ : Nat) = _ => absurd h (by omega)) | (with_reducible intro _) | (with_reducible refine QuoV.pos (by omega) ?_) | (with_reducible refine RemV.pos (by omega) ?_) | ((with_reducible show IxV _ _); first | (refine IxV.nat _ rfl ?_) | (refine IxV.gen ?_)) | ((with_reducible show CallV _ _ _ _ _ _ _ _); (first | (refine CallV.pure _ inferInstance (fun w' L' hL' hw' => side_any _ hgq high w') ?_) | (refine CallV.new inferInstance (fun w' L' hL' hw' => hfirst w' (hL'.row (i := 1000) rfl hw') (hL'.row (i := 19) rfl hw') (hL'.row (i := 22) rfl hw') (hB.at_ (hL'.own_bag (i := 9000) rfl hw') hI.ch (by omega) hI.pos)) ?_))) | ((with_reducible show CallP _ _ _ _ _ _ _ _); (first | (refine CallV.pure _ inferInstance (fun w' L' hL' hw' => side_any _ hgq high w') ?_) | (refine CallV.new inferInstance (fun w' L' hL' hw' => hfirst w' (hL'.row (i := 1000) rfl hw') (hL'.row (i := 19) rfl hw') (hL'.row (i := 22) rfl hw') (hB.at_ (hL'.own_bag (i := 9000) rfl hw') hI.ch (by omega) hI.pos)) ?_))) | (with_reducible exact trivial) | (with_reducible exact fun _ _ => trivial) | ((with_reducible show Known _ _ _ _ _ _ _ _); (fail "not known")) | (fail "no more")))))
  rename_i b25 b22 b19
  refine LoopV.bag 9000 ?_
  refine LoopV.mk tab_ok mixed [] [0, 1, 2, 3, 10, 11, 12, 27] [1000] (fun x : BG => [(28, .int .i64 x.k)])
    (fun x => [(25, .row true (some ⟨b19, 0, none⟩) 1 4 l.length l.length (bRow (iterR l b high x.k).dn)), (22, .row true (some ⟨b22, 0, none⟩) 1 29 l.length l.length (cRow x.cp x.cl x.cc)), (19, .row true (some ⟨b25, 0, none⟩) 1 3 l.length l.length (iRow (iterR l b high x.k).sm)), (9000, .bag x.Ls)])
    (fun x => x.k ≤ l.length ∧ Bag (iterR l b high x.k).cs x.cp x.cl x.Ls) (fun x => l.length - x.k) ⟨0, fun _ => none, fun _ => 0, fun _ => 0, []⟩ ?_ ?_ ?_ ?_
  · refine ⟨by dsimp only; omega, ⟨fun j => ?_, fun j _ => rfl, fun j xs hj => ?_⟩⟩
    · simp [iterR, chL, List.getD_eq_getElem?_getD, List.getElem?_replicate]; split <;> simp
    · simp [iterR, List.getD_eq_getElem?_getD, List.getElem?_replicate] at hj; split at hj <;> simp at hj
  · (repeat' (first | (exact trivial) | (exact rfl) | (refine And.intro ?_ ?_) | (exact fun _ _ => ⟨rfl, rfl⟩) | omega))
  · refine ⟨⟨rfl, rfl, rfl, rfl, rfl, rfl, fun j hj => sameE.of ?_⟩, ⟨rfl, rfl, rfl, rfl, rfl, rfl, fun j hj => ⟨rfl, rfl⟩⟩, ⟨rfl, rfl, rfl, rfl, rfl, rfl, fun j hj => sameE.of ?_⟩, rfl, trivial⟩
    · simp [bRow, iterR, List.getD_eq_getElem?_getD, List.getElem?_replicate, hj]
    · simp [iRow, iterR, List.getD_eq_getElem?_getD, List.getElem?_replicate, hj]
  refine And.intro rfl ?_
  rintro ⟨k, cp, cl, cc, Ls⟩ ⟨hk, hB⟩
  dsimp only at hk hB ⊢
  have hI := iterR_ok hok b high k hk
  by_cases hkn : k < l.length
  · (repeat' (first | ((with_reducible show drawB _ _ = true); kernel_rfl) | ((with_reducible show anyB _ = true); kernel_rfl) | ((with_reducible show _ = _); first | exact rfl | omega | assumption) | ((with_reducible show (_ : Int) ≤ _); first | omega | (exact bytes_leZ (by decide) (by omega) (by omega))) | ((with_reducible show (_ : Int) < _); omega) | ((with_reducible show (_ : Nat) ≤ _); first | omega | (simp only [addn]; omega) | (refine bytes_le (by decide) ?_; omega)) | ((with_reducible show (_ : Nat) < _); first | assumption | omega | (simp only [addn]; omega)) | (with_reducible exact trivial) | ((try (conv => whnf)); (first | (with_reducible refine And.intro ?_ ?_) | ((with_reducible show spl _ _); first | (refine spl_t (by first | omega | assumption | exact rfl) ?_) | (refine spl_f (by first | omega | assumption | (intro h; cases h; done)) ?_) | (refine spl_i (fun _ => ?_) (fun _ => ?_))) | ((with_reducible show spln _ _); first | (refine spln_t (by first | omega | assumption | exact rfl) ?_) | (refine spln_f (by first | omega | assumption | (intro h; cases h; done)) ?_) | (refine spln_i (fun _ => ?_) (fun _ => ?_))) | (with_reducible refine fun h : (_ : Int) = _ => absurd h (by omega)) | (with_reducible refine fun h : (_ : Nat) = _ => absurd h (by omega)) | (with_reducible intro _) | (with_reducible refine QuoV.pos (by omega) ?_) | (with_reducible refine RemV.pos (by omega) ?_) | ((with_reducible show IxV _ _); first | (refine IxV.nat _ rfl ?_) | (refine IxV.gen ?_)) | ((with_reducible show CallV _ _ _ _ _ _ _ _); (first | (refine CallV.pure _ inferInstance (fun w' L' hL' hw' => side_any _ hgq high w') ?_) | (refine CallV.new inferInstance (fun w' L' hL' hw' => hfirst w' (hL'.row (i := 1000) rfl hw') (hL'.row (i := 19) rfl hw') (hL'.row (i := 22) rfl hw') (hB.at_ (hL'.own_bag (i := 9000) rfl hw') hI.ch (by omega) hI.pos)) ?_))) | ((with_reducible show CallP _ _ _ _ _ _ _ _); (first | (refine CallV.pure _ inferInstance (fun w' L' hL' hw' => side_any _ hgq high w') ?_) | (refine CallV.new inferInstance (fun w' L' hL' hw' => hfirst w' (hL'.row (i := 1000) rfl hw') (hL'.row (i := 19) rfl hw') (hL'.row (i := 22) rfl hw') (hB.at_ (hL'.own_bag (i := 9000) rfl hw') hI.ch (by omega) hI.pos)) ?_))) | (with_reducible exact trivial) | (with_reducible exact fun _ _ => trivial) | ((with_reducible show Known _ _ _ _ _ _ _ _); (fail "not known")) | (fail "no more")))))
    refine LoopV.mk tab_ok mixed [] [0, 1, 2, 3, 10, 11, 12, 27, 28] [1000, 25, 22, 19, 9000] (fun i : Nat => [(13, .int .i64 (mI (pkF l (iterR l b high k).dn i))), (14, .int .i64 i)]) (fun _ => []) (fun i => i ≤ l.length) (fun i => l.length - i) 0 ?_ ?_ ?_ ?_
    · omega
    · (repeat' (first | (exact trivial) | (exact rfl) | (refine And.intro ?_ ?_) | (exact fun _ _ => ⟨rfl, rfl⟩) | omega))
    · exact trivial
    refine And.intro rfl ?_
    intro i hi
    by_cases hin : i < l.length
    · cases g1 : (iterR l b high k).dn.getD i true with
      | true =>
        have hs : pkF l (iterR l b high k).dn (i + 1) = pkF l (iterR l b high k).dn i := by rw [pkF, if_neg (fun h => by rw [g1] at h; cases h.1)]
        (repeat' (first | ((with_reducible show drawB _ _ = true); kernel_rfl) | ((with_reducible show anyB _ = true); kernel_rfl) | ((with_reducible show _ = _); first | exact rfl | omega | assumption) | ((with_reducible show (_ : Int) ≤ _); first | omega | (exact bytes_leZ (by decide) (by omega) (by omega))) | ((with_reducible show (_ : Int) < _); omega) | ((with_reducible show (_ : Nat) ≤ _); first | omega | (simp only [addn]; omega) | (refine bytes_le (by decide) ?_; omega)) | ((with_reducible show (_ : Nat) < _); first | assumption | omega | (simp only [addn]; omega)) | (with_reducible exact trivial) | ((try (conv => whnf)); (first | (with_reducible refine And.intro ?_ ?_) | ((with_reducible show spl _ _); first | (refine spl_t (by first | omega | assumption | exact rfl) ?_) | (refine spl_f (by first | omega | assumption | (intro h; cases h; done)) ?_) | (refine spl_i (fun _ => ?_) (fun _ => ?_))) | ((with_reducible show spln _ _); first | (refine spln_t (by first | omega | assumption | exact rfl) ?_) | (refine spln_f (by first | omega | assumption | (intro h; cases h; done)) ?_) | (refine spln_i (fun _ => ?_) (fun _ => ?_))) | (with_reducible refine fun h : (_ : Int) = _ => absurd h (by omega)) | (with_reducible refine fun h : (_ : Nat) = _ => absurd h (by omega)) | (with_reducible intro _) | (with_reducible refine QuoV.pos (by omega) ?_) | (with_reducible refine RemV.pos (by omega) ?_) | ((with_reducible show IxV _ _); first | (refine IxV.nat _ rfl ?_) | (refine IxV.gen ?_)) | ((with_reducible show CallV _ _ _ _ _ _ _ _); (first | (refine CallV.pure _ inferInstance (fun w' L' hL' hw' => side_any _ hgq high w') ?_) | (refine CallV.new inferInstance (fun w' L' hL' hw' => hfirst w' (hL'.row (i := 1000) rfl hw') (hL'.row (i := 19) rfl hw') (hL'.row (i := 22) rfl hw') (hB.at_ (hL'.own_bag (i := 9000) rfl hw') hI.ch (by omega) hI.pos)) ?_))) | ((with_reducible show CallP _ _ _ _ _ _ _ _); (first | (refine CallV.pure _ inferInstance (fun w' L' hL' hw' => side_any _ hgq high w') ?_) | (refine CallV.new inferInstance (fun w' L' hL' hw' => hfirst w' (hL'.row (i := 1000) rfl hw') (hL'.row (i := 19) rfl hw') (hL'.row (i := 22) rfl hw') (hB.at_ (hL'.own_bag (i := 9000) rfl hw') hI.ch (by omega) hI.pos)) ?_))) | (with_reducible exact trivial) | (with_reducible exact fun _ _ => trivial) | ((with_reducible show Known _ _ _ _ _ _ _ _); (fail "not known")) | (fail "no more")))))
        show AgainV _ _ _ _ _ _ _ _ _ _ _ _ _; refine AgainV.mk (i + 1) (by omega) (by omega) ?_ ?_ ?_ ?_ rfl
        · rw [hs]; (repeat' (first | (exact trivial) | (exact rfl) | (refine And.intro ?_ ?_) | (exact fun _ _ => ⟨rfl, rfl⟩) | omega))
        · (repeat' (first | (exact trivial) | (exact rfl) | (refine And.intro ?_ ?_) | (exact fun _ _ => ⟨rfl, rfl⟩) | omega))
        · (repeat' (first | (exact trivial) | (exact rfl) | (refine And.intro ?_ ?_) | (exact fun _ _ => ⟨rfl, rfl⟩) | omega))
        · (repeat' (first | (exact trivial) | (exact rfl) | (refine And.intro ?_ ?_) | (exact fun _ _ => ⟨rfl, rfl⟩) | omega))
      | false =>
        have g1' : ¬ (iterR l b high k).dn.getD i true = true := by rw [g1]; simp
        cases g2 : pkF l (iterR l b high k).dn i with
        | none =>
          have g3 : mI none < 0 := by decide
          have hs : pkF l (iterR l b high k).dn (i + 1) = some i := by rw [pkF, if_pos ⟨g1, fun m hm => by rw [g2] at hm; cases hm⟩]
          (repeat' (first | ((with_reducible show drawB _ _ = true); kernel_rfl) | ((with_reducible show anyB _ = true); kernel_rfl) | ((with_reducible show _ = _); first | exact rfl | omega | assumption) | ((with_reducible show (_ : Int) ≤ _); first | omega | (exact bytes_leZ (by decide) (by omega) (by omega))) | ((with_reducible show (_ : Int) < _); omega) | ((with_reducible show (_ : Nat) ≤ _); first | omega | (simp only [addn]; omega) | (refine bytes_le (by decide) ?_; omega)) | ((with_reducible show (_ : Nat) < _); first | assumption | omega | (simp only [addn]; omega)) | (with_reducible exact trivial) | ((try (conv => whnf)); (first | (with_reducible refine And.intro ?_ ?_) | ((with_reducible show spl _ _); first | (refine spl_t (by first | omega | assumption | exact rfl) ?_) | (refine spl_f (by first | omega | assumption | (intro h; cases h; done)) ?_) | (refine spl_i (fun _ => ?_) (fun _ => ?_))) | ((with_reducible show spln _ _); first | (refine spln_t (by first | omega | assumption | exact rfl) ?_) | (refine spln_f (by first | omega | assumption | (intro h; cases h; done)) ?_) | (refine spln_i (fun _ => ?_) (fun _ => ?_))) | (with_reducible refine fun h : (_ : Int) = _ => absurd h (by omega)) | (with_reducible refine fun h : (_ : Nat) = _ => absurd h (by omega)) | (with_reducible intro _) | (with_reducible refine QuoV.pos (by omega) ?_) | (with_reducible refine RemV.pos (by omega) ?_) | ((with_reducible show IxV _ _); first | (refine IxV.nat _ rfl ?_) | (refine IxV.gen ?_)) | ((with_reducible show CallV _ _ _ _ _ _ _ _); (first | (refine CallV.pure _ inferInstance (fun w' L' hL' hw' => side_any _ hgq high w') ?_) | (refine CallV.new inferInstance (fun w' L' hL' hw' => hfirst w' (hL'.row (i := 1000) rfl hw') (hL'.row (i := 19) rfl hw') (hL'.row (i := 22) rfl hw') (hB.at_ (hL'.own_bag (i := 9000) rfl hw') hI.ch (by omega) hI.pos)) ?_))) | ((with_reducible show CallP _ _ _ _ _ _ _ _); (first | (refine CallV.pure _ inferInstance (fun w' L' hL' hw' => side_any _ hgq high w') ?_) | (refine CallV.new inferInstance (fun w' L' hL' hw' => hfirst w' (hL'.row (i := 1000) rfl hw') (hL'.row (i := 19) rfl hw') (hL'.row (i := 22) rfl hw') (hB.at_ (hL'.own_bag (i := 9000) rfl hw') hI.ch (by omega) hI.pos)) ?_))) | (with_reducible exact trivial) | (with_reducible exact fun _ _ => trivial) | ((with_reducible show Known _ _ _ _ _ _ _ _); (fail "not known")) | (fail "no more")))))
          show AgainV _ _ _ _ _ _ _ _ _ _ _ _ _; refine AgainV.mk (i + 1) (by omega) (by omega) ?_ ?_ ?_ ?_ rfl
          · rw [hs]; (repeat' (first | (exact trivial) | (exact rfl) | (refine And.intro ?_ ?_) | (exact fun _ _ => ⟨rfl, rfl⟩) | omega))
          · (repeat' (first | (exact trivial) | (exact rfl) | (refine And.intro ?_ ?_) | (exact fun _ _ => ⟨rfl, rfl⟩) | omega))
          · (repeat' (first | (exact trivial) | (exact rfl) | (refine And.intro ?_ ?_) | (exact fun _ _ => ⟨rfl, rfl⟩) | omega))
          · (repeat' (first | (exact trivial) | (exact rfl) | (refine And.intro ?_ ?_) | (exact fun _ _ => ⟨rfl, rfl⟩) | omega))
        | some m =>
          have hm := (pkF_spec g2).1
          have g5 : mI (some m) = (m : Int) := rfl
          rw [g5]
          by_cases g4 : (l.getD m ga0).f < (l.getD i ga0).f
          · have hs : pkF l (iterR l b high k).dn (i + 1) = some i := by rw [pkF, if_pos ⟨g1, fun m' hm' => by rw [g2] at hm'; cases hm'; exact g4⟩]
            (repeat' (first | ((with_reducible show drawB _ _ = true); kernel_rfl) | ((with_reducible show anyB _ = true); kernel_rfl) | ((with_reducible show _ = _); first | exact rfl | omega | assumption) | ((with_reducible show (_ : Int) ≤ _); first | omega | (exact bytes_leZ (by decide) (by omega) (by omega))) | ((with_reducible show (_ : Int) < _); omega) | ((with_reducible show (_ : Nat) ≤ _); first | omega | (simp only [addn]; omega) | (refine bytes_le (by decide) ?_; omega)) | ((with_reducible show (_ : Nat) < _); first | assumption | omega | (simp only [addn]; omega)) | (with_reducible exact trivial) | ((try (conv => whnf)); (first | (with_reducible refine And.intro ?_ ?_) | ((with_reducible show spl _ _); first | (refine spl_t (by first | omega | assumption | exact rfl) ?_) | (refine spl_f (by first | omega | assumption | (intro h; cases h; done)) ?_) | (refine spl_i (fun _ => ?_) (fun _ => ?_))) | ((with_reducible show spln _ _); first | (refine spln_t (by first | omega | assumption | exact rfl) ?_) | (refine spln_f (by first | omega | assumption | (intro h; cases h; done)) ?_) | (refine spln_i (fun _ => ?_) (fun _ => ?_))) | (with_reducible refine fun h : (_ : Int) = _ => absurd h (by omega)) | (with_reducible refine fun h : (_ : Nat) = _ => absurd h (by omega)) | (with_reducible intro _) | (with_reducible refine QuoV.pos (by omega) ?_) | (with_reducible refine RemV.pos (by omega) ?_) | ((with_reducible show IxV _ _); first | (refine IxV.nat _ rfl ?_) | (refine IxV.gen ?_)) | ((with_reducible show CallV _ _ _ _ _ _ _ _); (first | (refine CallV.pure _ inferInstance (fun w' L' hL' hw' => side_any _ hgq high w') ?_) | (refine CallV.new inferInstance (fun w' L' hL' hw' => hfirst w' (hL'.row (i := 1000) rfl hw') (hL'.row (i := 19) rfl hw') (hL'.row (i := 22) rfl hw') (hB.at_ (hL'.own_bag (i := 9000) rfl hw') hI.ch (by omega) hI.pos)) ?_))) | ((with_reducible show CallP _ _ _ _ _ _ _ _); (first | (refine CallV.pure _ inferInstance (fun w' L' hL' hw' => side_any _ hgq high w') ?_) | (refine CallV.new inferInstance (fun w' L' hL' hw' => hfirst w' (hL'.row (i := 1000) rfl hw') (hL'.row (i := 19) rfl hw') (hL'.row (i := 22) rfl hw') (hB.at_ (hL'.own_bag (i := 9000) rfl hw') hI.ch (by omega) hI.pos)) ?_))) | (with_reducible exact trivial) | (with_reducible exact fun _ _ => trivial) | ((with_reducible show Known _ _ _ _ _ _ _ _); (fail "not known")) | (fail "no more")))))
            show AgainV _ _ _ _ _ _ _ _ _ _ _ _ _; refine AgainV.mk (i + 1) (by omega) (by omega) ?_ ?_ ?_ ?_ rfl
            · rw [hs]; (repeat' (first | (exact trivial) | (exact rfl) | (refine And.intro ?_ ?_) | (exact fun _ _ => ⟨rfl, rfl⟩) | omega))
            · (repeat' (first | (exact trivial) | (exact rfl) | (refine And.intro ?_ ?_) | (exact fun _ _ => ⟨rfl, rfl⟩) | omega))
            · (repeat' (first | (exact trivial) | (exact rfl) | (refine And.intro ?_ ?_) | (exact fun _ _ => ⟨rfl, rfl⟩) | omega))
            · (repeat' (first | (exact trivial) | (exact rfl) | (refine And.intro ?_ ?_) | (exact fun _ _ => ⟨rfl, rfl⟩) | omega))
          · have hs : pkF l (iterR l b high k).dn (i + 1) = some m := by rw [pkF, if_neg (fun h => g4 (h.2 m g2)), g2]
            (repeat' (first | ((with_reducible show drawB _ _ = true); kernel_rfl) | ((with_reducible show anyB _ = true); kernel_rfl) | ((with_reducible show _ = _); first | exact rfl | omega | assumption) | ((with_reducible show (_ : Int) ≤ _); first | omega | (exact bytes_leZ (by decide) (by omega) (by omega))) | ((with_reducible show (_ : Int) < _); omega) | ((with_reducible show (_ : Nat) ≤ _); first | omega | (simp only [addn]; omega) | (refine bytes_le (by decide) ?_; omega)) | ((with_reducible show (_ : Nat) < _); first | assumption | omega | (simp only [addn]; omega)) | (with_reducible exact trivial) | ((try (conv => whnf)); (first | (with_reducible refine And.intro ?_ ?_) | ((with_reducible show spl _ _); first | (refine spl_t (by first | omega | assumption | exact rfl) ?_) | (refine spl_f (by first | omega | assumption | (intro h; cases h; done)) ?_) | (refine spl_i (fun _ => ?_) (fun _ => ?_))) | ((with_reducible show spln _ _); first | (refine spln_t (by first | omega | assumption | exact rfl) ?_) | (refine spln_f (by first | omega | assumption | (intro h; cases h; done)) ?_) | (refine spln_i (fun _ => ?_) (fun _ => ?_))) | (with_reducible refine fun h : (_ : Int) = _ => absurd h (by omega)) | (with_reducible refine fun h : (_ : Nat) = _ => absurd h (by omega)) | (with_reducible intro _) | (with_reducible refine QuoV.pos (by omega) ?_) | (with_reducible refine RemV.pos (by omega) ?_) | ((with_reducible show IxV _ _); first | (refine IxV.nat _ rfl ?_) | (refine IxV.gen ?_)) | ((with_reducible show CallV _ _ _ _ _ _ _ _); (first | (refine CallV.pure _ inferInstance (fun w' L' hL' hw' => side_any _ hgq high w') ?_) | (refine CallV.new inferInstance (fun w' L' hL' hw' => hfirst w' (hL'.row (i := 1000) rfl hw') (hL'.row (i := 19) rfl hw') (hL'.row (i := 22) rfl hw') (hB.at_ (hL'.own_bag (i := 9000) rfl hw') hI.ch (by omega) hI.pos)) ?_))) | ((with_reducible show CallP _ _ _ _ _ _ _ _); (first | (refine CallV.pure _ inferInstance (fun w' L' hL' hw' => side_any _ hgq high w') ?_) | (refine CallV.new inferInstance (fun w' L' hL' hw' => hfirst w' (hL'.row (i := 1000) rfl hw') (hL'.row (i := 19) rfl hw') (hL'.row (i := 22) rfl hw') (hB.at_ (hL'.own_bag (i := 9000) rfl hw') hI.ch (by omega) hI.pos)) ?_))) | (with_reducible exact trivial) | (with_reducible exact fun _ _ => trivial) | ((with_reducible show Known _ _ _ _ _ _ _ _); (fail "not known")) | (fail "no more")))))
            show AgainV _ _ _ _ _ _ _ _ _ _ _ _ _; refine AgainV.mk (i + 1) (by omega) (by omega) ?_ ?_ ?_ ?_ rfl
            · rw [hs]; (repeat' (first | (exact trivial) | (exact rfl) | (refine And.intro ?_ ?_) | (exact fun _ _ => ⟨rfl, rfl⟩) | omega))
            · (repeat' (first | (exact trivial) | (exact rfl) | (refine And.intro ?_ ?_) | (exact fun _ _ => ⟨rfl, rfl⟩) | omega))
            · (repeat' (first | (exact trivial) | (exact rfl) | (refine And.intro ?_ ?_) | (exact fun _ _ => ⟨rfl, rfl⟩) | omega))
            · (repeat' (first | (exact trivial) | (exact rfl) | (refine And.intro ?_ ?_) | (exact fun _ _ => ⟨rfl, rfl⟩) | omega))
    · have hil : i = l.length := by omega
      subst hil
      obtain ⟨j0, hj1, hj2⟩ := count_some (dn := (iterR l b high k).dn) (by rw [hI.cnt, hI.l3]; omega)
      obtain ⟨q, hq⟩ := pkF_some (l := l) (i := l.length) (by rw [hI.l3] at hj1; exact hj1) hj2
      obtain ⟨hq1, hq2⟩ := pkF_spec hq
      have hgq := getD_ok hok hq1
      have g5 : mI (some q) = (q : Int) := rfl
      rw [hq, g5]
      have hst : iterR l b high (k + 1) = stepR l b high (iterR l b high k) := rfl
      simp only [stepR, hq] at hst
      by_cases e1 : (l.getD q ga0).t = b
      · rw [if_pos e1] at hst
        (repeat' (first | ((with_reducible show drawB _ _ = true); kernel_rfl) | ((with_reducible show anyB _ = true); kernel_rfl) | ((with_reducible show _ = _); first | exact rfl | omega | assumption) | ((with_reducible show (_ : Int) ≤ _); first | omega | (exact bytes_leZ (by decide) (by omega) (by omega))) | ((with_reducible show (_ : Int) < _); omega) | ((with_reducible show (_ : Nat) ≤ _); first | omega | (simp only [addn]; omega) | (refine bytes_le (by decide) ?_; omega)) | ((with_reducible show (_ : Nat) < _); first | assumption | omega | (simp only [addn]; omega)) | (with_reducible exact trivial) | ((try (conv => whnf)); (first | (with_reducible refine And.intro ?_ ?_) | ((with_reducible show spl _ _); first | (refine spl_t (by first | omega | assumption | exact rfl) ?_) | (refine spl_f (by first | omega | assumption | (intro h; cases h; done)) ?_) | (refine spl_i (fun _ => ?_) (fun _ => ?_))) | ((with_reducible show spln _ _); first | (refine spln_t (by first | omega | assumption | exact rfl) ?_) | (refine spln_f (by first | omega | assumption | (intro h; cases h; done)) ?_) | (refine spln_i (fun _ => ?_) (fun _ => ?_))) | (with_reducible refine fun h : (_ : Int) = _ => absurd h (by omega)) | (with_reducible refine fun h : (_ : Nat) = _ => absurd h (by omega)) | (with_reducible intro _) | (with_reducible refine QuoV.pos (by omega) ?_) | (with_reducible refine RemV.pos (by omega) ?_) | ((with_reducible show IxV _ _); first | (refine IxV.nat _ rfl ?_) | (refine IxV.gen ?_)) | ((with_reducible show CallV _ _ _ _ _ _ _ _); (first | (refine CallV.pure _ inferInstance (fun w' L' hL' hw' => side_any _ hgq high w') ?_) | (refine CallV.new inferInstance (fun w' L' hL' hw' => hfirst w' (hL'.row (i := 1000) rfl hw') (hL'.row (i := 19) rfl hw') (hL'.row (i := 22) rfl hw') (hB.at_ (hL'.own_bag (i := 9000) rfl hw') hI.ch (by omega) hI.pos)) ?_))) | ((with_reducible show CallP _ _ _ _ _ _ _ _); (first | (refine CallV.pure _ inferInstance (fun w' L' hL' hw' => side_any _ hgq high w') ?_) | (refine CallV.new inferInstance (fun w' L' hL' hw' => hfirst w' (hL'.row (i := 1000) rfl hw') (hL'.row (i := 19) rfl hw') (hL'.row (i := 22) rfl hw') (hB.at_ (hL'.own_bag (i := 9000) rfl hw') hI.ch (by omega) hI.pos)) ?_))) | (with_reducible exact trivial) | (with_reducible exact fun _ _ => trivial) | ((with_reducible show Known _ _ _ _ _ _ _ _); (fail "not known")) | (fail "no more")))))
        rename_i b80
        show AgainV _ _ _ _ _ _ _ _ _ _ _ _ _
        refine AgainV.sem fun L2 hL2 => ?_
        obtain ⟨M, L3, hM, hL3, hp3⟩ := hL2.join (i := 80) (bg := 9000) rfl rfl rfl
        have hM' : OwnRow (some ⟨b80, 0, none⟩) 1 3 [(q : Int)].length 1 (iRow [(q : Int)]) M := OwnRow.congr (f := _) hM fun j hj => by
          have : j = 0 := by simp at hj; omega
          subst this; exact ⟨rfl, rfl⟩
        obtain ⟨L4, hL4, hw4⟩ := subH_wd (D := []) (A := [(25, .row true (some ⟨b19, 0, none⟩) 1 4 l.length l.length (bRow (iterR l b high (k + 1)).dn)), (22, .row true (some ⟨b22, 0, none⟩) 1 29 l.length l.length (cRow (fun j => if j = q then some ⟨b80, 0, none⟩ else cp j) (fun j => if j = q then 1 else cl j) (fun j => if j = q then 1 else cc j))), (19, .row true (some ⟨b25, 0, none⟩) 1 3 l.length l.length (iRow (iterR l b high (k + 1)).sm)), (9000, .bag (M ++ Ls)), (1000, .row false p 10 26 l.length c1 (gRow l))]) rfl (by
          rw [hst]
          refine ⟨⟨rfl, rfl, rfl, rfl, rfl, rfl, fun j hj => bRow_set (by rw [hI.l3]; exact hq1) j⟩, ⟨rfl, rfl, rfl, rfl, rfl, rfl, fun j hj => cRow_set cp cl cc q 80 1 1 _ j⟩, ⟨rfl, rfl, rfl, rfl, rfl, rfl, fun j hj => iRow_set (by rw [hI.l1]; exact hq1) j⟩, rfl, ⟨rfl, rfl, rfl, rfl, rfl, rfl, fun j hj => ⟨rfl, rfl⟩⟩, trivial⟩) hL3
        refine ⟨⟨k + 1, _, _, _, M ++ Ls⟩, L4, ⟨⟨by dsimp only; omega, ?_⟩, by dsimp only; omega⟩, ?_, ?_, hL4, fun w hw => hw4 w (hw.perm hp3), rfl⟩
        · dsimp only; rw [hst]; exact hB.set (by rw [hI.l2]; exact hq1) hM' (by simp)
        · (repeat' (first | (exact trivial) | (exact rfl) | (refine And.intro ?_ ?_) | (exact fun _ _ => ⟨rfl, rfl⟩) | omega))
        · (repeat' (first | (exact trivial) | (exact rfl) | (refine And.intro ?_ ?_) | (exact fun _ _ => ⟨rfl, rfl⟩) | omega))
      · rw [if_neg e1] at hst
        cases hfs : firstS l (l.getD q ga0).t (iterR l b high k).sm (iterR l b high k).cs with
        | none =>
          rw [hfs] at hst
          simp only at hst
          have hfirst : ∀ w', RowAt w' p 10 l.length (gRow l) → RowAt w' (some ⟨b25, 0, none⟩) 1 l.length (iRow (iterR l b high k).sm) → RowAt w' (some ⟨b22, 0, none⟩) 1 l.length (cRow cp cl cc) → ChAt w' (iterR l b high k).cs cp cl →
              New_ Try.prog 53 [.slice p l.length c1, .int .i64 (l.getD q ga0).t, .slice (some ⟨b25, 0, none⟩) l.length l.length, .slice (some ⟨b22, 0, none⟩) l.length l.length] (fun _ : Nat × Nat => True) (resV 74 none) (resH 74 none) w' := fun w' r1 r2 r3 hC => by
            have := first_any p (some ⟨b25, 0, none⟩) (some ⟨b22, 0, none⟩) c1 l.length l.length l (l.getD q ga0).t _ _ cp cl cc w' (by omega) r1 r2 r3 hC
            rw [hfs] at this; exact this
          (repeat' (first | ((with_reducible show drawB _ _ = true); kernel_rfl) | ((with_reducible show anyB _ = true); kernel_rfl) | ((with_reducible show _ = _); first | exact rfl | omega | assumption) | ((with_reducible show (_ : Int) ≤ _); first | omega | (exact bytes_leZ (by decide) (by omega) (by omega))) | ((with_reducible show (_ : Int) < _); omega) | ((with_reducible show (_ : Nat) ≤ _); first | omega | (simp only [addn]; omega) | (refine bytes_le (by decide) ?_; omega)) | ((with_reducible show (_ : Nat) < _); first | assumption | omega | (simp only [addn]; omega)) | (with_reducible exact trivial) | ((try (conv => whnf)); (first | (with_reducible refine And.intro ?_ ?_) | ((with_reducible show spl _ _); first | (refine spl_t (by first | omega | assumption | exact rfl) ?_) | (refine spl_f (by first | omega | assumption | (intro h; cases h; done)) ?_) | (refine spl_i (fun _ => ?_) (fun _ => ?_))) | ((with_reducible show spln _ _); first | (refine spln_t (by first | omega | assumption | exact rfl) ?_) | (refine spln_f (by first | omega | assumption | (intro h; cases h; done)) ?_) | (refine spln_i (fun _ => ?_) (fun _ => ?_))) | (with_reducible refine fun h : (_ : Int) = _ => absurd h (by omega)) | (with_reducible refine fun h : (_ : Nat) = _ => absurd h (by omega)) | (with_reducible intro _) | (with_reducible refine QuoV.pos (by omega) ?_) | (with_reducible refine RemV.pos (by omega) ?_) | ((with_reducible show IxV _ _); first | (refine IxV.nat _ rfl ?_) | (refine IxV.gen ?_)) | ((with_reducible show CallV _ _ _ _ _ _ _ _); (first | (refine CallV.pure _ inferInstance (fun w' L' hL' hw' => side_any _ hgq high w') ?_) | (refine CallV.new inferInstance (fun w' L' hL' hw' => hfirst w' (hL'.row (i := 1000) rfl hw') (hL'.row (i := 19) rfl hw') (hL'.row (i := 22) rfl hw') (hB.at_ (hL'.own_bag (i := 9000) rfl hw') hI.ch (by omega) hI.pos)) ?_))) | ((with_reducible show CallP _ _ _ _ _ _ _ _); (first | (refine CallV.pure _ inferInstance (fun w' L' hL' hw' => side_any _ hgq high w') ?_) | (refine CallV.new inferInstance (fun w' L' hL' hw' => hfirst w' (hL'.row (i := 1000) rfl hw') (hL'.row (i := 19) rfl hw') (hL'.row (i := 22) rfl hw') (hB.at_ (hL'.own_bag (i := 9000) rfl hw') hI.ch (by omega) hI.pos)) ?_))) | (with_reducible exact trivial) | (with_reducible exact fun _ _ => trivial) | ((with_reducible show Known _ _ _ _ _ _ _ _); (fail "not known")) | (fail "no more")))))
          show AgainV _ _ _ _ _ _ _ _ _ _ _ _ _; refine AgainV.mk ⟨k + 1, cp, cl, cc, Ls⟩ ⟨by dsimp only; omega, by dsimp only; rw [hst]; exact hB⟩ (by dsimp only; omega) ?_ ?_ ?_ ?_ rfl
          · (repeat' (first | (exact trivial) | (exact rfl) | (refine And.intro ?_ ?_) | (exact fun _ _ => ⟨rfl, rfl⟩) | omega))
          · (repeat' (first | (exact trivial) | (exact rfl) | (refine And.intro ?_ ?_) | (exact fun _ _ => ⟨rfl, rfl⟩) | omega))
          · rw [hst]
            exact ⟨⟨rfl, rfl, rfl, rfl, rfl, rfl, fun j hj => bRow_set (by rw [hI.l3]; exact hq1) j⟩, ⟨rfl, rfl, rfl, rfl, rfl, rfl, fun j hj => ⟨rfl, rfl⟩⟩, ⟨rfl, rfl, rfl, rfl, rfl, rfl, fun j hj => ⟨rfl, rfl⟩⟩, rfl, trivial⟩
          · (repeat' (first | (exact trivial) | (exact rfl) | (refine And.intro ?_ ?_) | (exact fun _ _ => ⟨rfl, rfl⟩) | omega))
        | some r =>
          rw [hfs] at hst
          simp only at hst
          obtain ⟨v, xs⟩ := r
          have hfirst : ∀ w', RowAt w' p 10 l.length (gRow l) → RowAt w' (some ⟨b25, 0, none⟩) 1 l.length (iRow (iterR l b high k).sm) → RowAt w' (some ⟨b22, 0, none⟩) 1 l.length (cRow cp cl cc) → ChAt w' (iterR l b high k).cs cp cl →
              New_ Try.prog 53 [.slice p l.length c1, .int .i64 (l.getD q ga0).t, .slice (some ⟨b25, 0, none⟩) l.length l.length, .slice (some ⟨b22, 0, none⟩) l.length l.length] (fun _ : Nat × Nat => True) (resV 74 (some (v, xs))) (resH 74 (some (v, xs))) w' := fun w' r1 r2 r3 hC => by
            have := first_any p (some ⟨b25, 0, none⟩) (some ⟨b22, 0, none⟩) c1 l.length l.length l (l.getD q ga0).t _ _ cp cl cc w' (by omega) r1 r2 r3 hC
            rw [hfs] at this; exact this
          obtain ⟨m, hm, hr, hf1⟩ := firstS_spec hfs
          simp only [Prod.mk.injEq] at hr
          have hvb := hI.bd m
          have hsd := sideS_bd hgq high
          have hxl := hI.ch m
          rw [← hr.1] at hvb
          rw [← hr.2] at hxl
          have hx0 : 0 < xs.length := by
            obtain ⟨m', hm', hr'⟩ := Option.map_eq_some_iff.1 (show (frF l (l.getD q ga0).t (iterR l b high k).sm (iterR l b high k).cs l.length).map _ = some (v, xs) from hfs)
            obtain ⟨_, _, ys, hys⟩ := frF_spec hm'
            simp only [Prod.mk.injEq] at hr'
            rw [← hr'.2]
            simp only [chL, hys, Option.getD_some]
            exact List.length_pos_iff.2 (hI.pos _ _ hys)
          (repeat' (first | ((with_reducible show drawB _ _ = true); kernel_rfl) | ((with_reducible show anyB _ = true); kernel_rfl) | ((with_reducible show _ = _); first | exact rfl | omega | assumption) | ((with_reducible show (_ : Int) ≤ _); first | omega | (exact bytes_leZ (by decide) (by omega) (by omega))) | ((with_reducible show (_ : Int) < _); omega) | ((with_reducible show (_ : Nat) ≤ _); first | omega | (simp only [addn]; omega) | (refine bytes_le (by decide) ?_; omega)) | ((with_reducible show (_ : Nat) < _); first | assumption | omega | (simp only [addn]; omega)) | (with_reducible exact trivial) | ((try (conv => whnf)); (first | (with_reducible refine And.intro ?_ ?_) | ((with_reducible show spl _ _); first | (refine spl_t (by first | omega | assumption | exact rfl) ?_) | (refine spl_f (by first | omega | assumption | (intro h; cases h; done)) ?_) | (refine spl_i (fun _ => ?_) (fun _ => ?_))) | ((with_reducible show spln _ _); first | (refine spln_t (by first | omega | assumption | exact rfl) ?_) | (refine spln_f (by first | omega | assumption | (intro h; cases h; done)) ?_) | (refine spln_i (fun _ => ?_) (fun _ => ?_))) | (with_reducible refine fun h : (_ : Int) = _ => absurd h (by omega)) | (with_reducible refine fun h : (_ : Nat) = _ => absurd h (by omega)) | (with_reducible intro _) | (with_reducible refine QuoV.pos (by omega) ?_) | (with_reducible refine RemV.pos (by omega) ?_) | ((with_reducible show IxV _ _); first | (refine IxV.nat _ rfl ?_) | (refine IxV.gen ?_)) | ((with_reducible show CallV _ _ _ _ _ _ _ _); (first | (refine CallV.pure _ inferInstance (fun w' L' hL' hw' => side_any _ hgq high w') ?_) | (refine CallV.new inferInstance (fun w' L' hL' hw' => hfirst w' (hL'.row (i := 1000) rfl hw') (hL'.row (i := 19) rfl hw') (hL'.row (i := 22) rfl hw') (hB.at_ (hL'.own_bag (i := 9000) rfl hw') hI.ch (by omega) hI.pos)) ?_))) | ((with_reducible show CallP _ _ _ _ _ _ _ _); (first | (refine CallV.pure _ inferInstance (fun w' L' hL' hw' => side_any _ hgq high w') ?_) | (refine CallV.new inferInstance (fun w' L' hL' hw' => hfirst w' (hL'.row (i := 1000) rfl hw') (hL'.row (i := 19) rfl hw') (hL'.row (i := 22) rfl hw') (hB.at_ (hL'.own_bag (i := 9000) rfl hw') hI.ch (by omega) hI.pos)) ?_))) | (with_reducible exact trivial) | (with_reducible exact fun _ _ => trivial) | ((with_reducible show Known _ _ _ _ _ _ _ _); (fail "not known")) | (fail "no more")))))
          · refine bytes_le (by decide) ?_
            rw [show 0 + 1 + xs.length = xs.length + 1 from Nat.add_comm 1 xs.length]
            omega
          rename_i x _ b110 _ bb cc1 hc
          show AgainV _ _ _ _ _ _ _ _ _ _ _ _ _
          refine AgainV.sem fun L2 hL2 => ?_
          obtain ⟨M, L3, hM, hL3, hp3⟩ := hL2.join (i := 110) (bg := 9000) rfl rfl rfl
          have hlen : 0 + 1 + xs.length = ((q : Int) :: xs).length := by rw [List.length_cons]; show 1 + _ = _; omega
          have hM' : OwnRow (some ⟨bb, 0, none⟩) 1 3 ((q : Int) :: xs).length cc1 (iRow ((q : Int) :: xs)) M := by
            rw [← hlen]
            exact OwnRow.congr (f := _) hM fun j hj => iRow_cons (q : Int) xs _ rfl j
          obtain ⟨L4, hL4, hw4⟩ := subH_wd (D := []) (A := [(25, .row true (some ⟨b19, 0, none⟩) 1 4 l.length l.length (bRow (iterR l b high (k + 1)).dn)), (22, .row true (some ⟨b22, 0, none⟩) 1 29 l.length l.length (cRow (fun j => if j = q then some ⟨bb, 0, none⟩ else cp j) (fun j => if j = q then ((q : Int) :: xs).length else cl j) (fun j => if j = q then cc1 else cc j))), (19, .row true (some ⟨b25, 0, none⟩) 1 3 l.length l.length (iRow (iterR l b high (k + 1)).sm)), (9000, .bag (M ++ Ls)), (1000, .row false p 10 26 l.length c1 (gRow l))]) rfl (by
            rw [hst]
            refine ⟨⟨rfl, rfl, rfl, rfl, rfl, rfl, fun j hj => bRow_set (by rw [hI.l3]; exact hq1) j⟩, ⟨rfl, rfl, rfl, rfl, rfl, rfl, fun j hj => by
              rw [← hlen]
              exact cRow_set cp cl cc q 110 (0 + 1 + xs.length) cc1 _ j⟩, ⟨rfl, rfl, rfl, rfl, rfl, rfl, fun j hj => iRow_set (by rw [hI.l1]; exact hq1) j⟩, rfl, ⟨rfl, rfl, rfl, rfl, rfl, rfl, fun j hj => ⟨rfl, rfl⟩⟩, trivial⟩) hL3
          refine ⟨⟨k + 1, _, _, _, M ++ Ls⟩, L4, ⟨⟨by dsimp only; omega, ?_⟩, by dsimp only; omega⟩, ?_, ?_, hL4, fun w hw => hw4 w (hw.perm hp3), rfl⟩
          · dsimp only; rw [hst]; exact hB.set (by rw [hI.l2]; exact hq1) hM' (by simp)
          · (repeat' (first | (exact trivial) | (exact rfl) | (refine And.intro ?_ ?_) | (exact fun _ _ => ⟨rfl, rfl⟩) | omega))
          · (repeat' (first | (exact trivial) | (exact rfl) | (refine And.intro ?_ ?_) | (exact fun _ _ => ⟨rfl, rfl⟩) | omega))
  · have hkl : k = l.length := by omega
    subst hkl
    have hfirst : ∀ w', RowAt w' p 10 l.length (gRow l) → RowAt w' (some ⟨b25, 0, none⟩) 1 l.length (iRow (iterR l b high l.length).sm) → RowAt w' (some ⟨b22, 0, none⟩) 1 l.length (cRow cp cl cc) → ChAt w' (iterR l b high l.length).cs cp cl →
        New_ Try.prog 53 [.slice p l.length c1, .int .i64 a, .slice (some ⟨b25, 0, none⟩) l.length l.length, .slice (some ⟨b22, 0, none⟩) l.length l.length] (fun _ : Nat × Nat => True) (resV 74 (bestR l a b high)) (resH 74 (bestR l a b high)) w' := fun w' r1 r2 r3 hC =>
      first_any p (some ⟨b25, 0, none⟩) (some ⟨b22, 0, none⟩) c1 l.length l.length l a _ _ cp cl cc w' (by omega) r1 r2 r3 hC
    cases hbr : bestR l a b high with
    | none =>
      rw [hbr] at hfirst
      (repeat' (first | ((with_reducible show drawB _ _ = true); kernel_rfl) | ((with_reducible show anyB _ = true); kernel_rfl) | ((with_reducible show _ = _); first | exact rfl | omega | assumption) | ((with_reducible show (_ : Int) ≤ _); first | omega | (exact bytes_leZ (by decide) (by omega) (by omega))) | ((with_reducible show (_ : Int) < _); omega) | ((with_reducible show (_ : Nat) ≤ _); first | omega | (simp only [addn]; omega) | (refine bytes_le (by decide) ?_; omega)) | ((with_reducible show (_ : Nat) < _); first | assumption | omega | (simp only [addn]; omega)) | (with_reducible exact trivial) | ((try (conv => whnf)); (first | (with_reducible refine And.intro ?_ ?_) | ((with_reducible show spl _ _); first | (refine spl_t (by first | omega | assumption | exact rfl) ?_) | (refine spl_f (by first | omega | assumption | (intro h; cases h; done)) ?_) | (refine spl_i (fun _ => ?_) (fun _ => ?_))) | ((with_reducible show spln _ _); first | (refine spln_t (by first | omega | assumption | exact rfl) ?_) | (refine spln_f (by first | omega | assumption | (intro h; cases h; done)) ?_) | (refine spln_i (fun _ => ?_) (fun _ => ?_))) | (with_reducible refine fun h : (_ : Int) = _ => absurd h (by omega)) | (with_reducible refine fun h : (_ : Nat) = _ => absurd h (by omega)) | (with_reducible intro _) | (with_reducible refine QuoV.pos (by omega) ?_) | (with_reducible refine RemV.pos (by omega) ?_) | ((with_reducible show IxV _ _); first | (refine IxV.nat _ rfl ?_) | (refine IxV.gen ?_)) | ((with_reducible show CallV _ _ _ _ _ _ _ _); (first | (refine CallV.pure _ inferInstance (fun w' L' hL' hw' => side_any _ hgq high w') ?_) | (refine CallV.new inferInstance (fun w' L' hL' hw' => hfirst w' (hL'.row (i := 1000) rfl hw') (hL'.row (i := 19) rfl hw') (hL'.row (i := 22) rfl hw') (hB.at_ (hL'.own_bag (i := 9000) rfl hw') hI.ch (by omega) hI.pos)) ?_))) | ((with_reducible show CallP _ _ _ _ _ _ _ _); (first | (refine CallV.pure _ inferInstance (fun w' L' hL' hw' => side_any _ hgq high w') ?_) | (refine CallV.new inferInstance (fun w' L' hL' hw' => hfirst w' (hL'.row (i := 1000) rfl hw') (hL'.row (i := 19) rfl hw') (hL'.row (i := 22) rfl hw') (hB.at_ (hL'.own_bag (i := 9000) rfl hw') hI.ch (by omega) hI.pos)) ?_))) | (with_reducible exact trivial) | (with_reducible exact fun _ _ => trivial) | ((with_reducible show Known _ _ _ _ _ _ _ _); (fail "not known")) | (fail "no more")))))
      show FinV _ _ _ _ _
      exact FinV.new (0, 0) rfl trivial rfl rfl trivial
    | some r =>
      obtain ⟨v, xs⟩ := r
      rw [hbr] at hfirst
      (repeat' (first | ((with_reducible show drawB _ _ = true); kernel_rfl) | ((with_reducible show anyB _ = true); kernel_rfl) | ((with_reducible show _ = _); first | exact rfl | omega | assumption) | ((with_reducible show (_ : Int) ≤ _); first | omega | (exact bytes_leZ (by decide) (by omega) (by omega))) | ((with_reducible show (_ : Int) < _); omega) | ((with_reducible show (_ : Nat) ≤ _); first | omega | (simp only [addn]; omega) | (refine bytes_le (by decide) ?_; omega)) | ((with_reducible show (_ : Nat) < _); first | assumption | omega | (simp only [addn]; omega)) | (with_reducible exact trivial) | ((try (conv => whnf)); (first | (with_reducible refine And.intro ?_ ?_) | ((with_reducible show spl _ _); first | (refine spl_t (by first | omega | assumption | exact rfl) ?_) | (refine spl_f (by first | omega | assumption | (intro h; cases h; done)) ?_) | (refine spl_i (fun _ => ?_) (fun _ => ?_))) | ((with_reducible show spln _ _); first | (refine spln_t (by first | omega | assumption | exact rfl) ?_) | (refine spln_f (by first | omega | assumption | (intro h; cases h; done)) ?_) | (refine spln_i (fun _ => ?_) (fun _ => ?_))) | (with_reducible refine fun h : (_ : Int) = _ => absurd h (by omega)) | (with_reducible refine fun h : (_ : Nat) = _ => absurd h (by omega)) | (with_reducible intro _) | (with_reducible refine QuoV.pos (by omega) ?_) | (with_reducible refine RemV.pos (by omega) ?_) | ((with_reducible show IxV _ _); first | (refine IxV.nat _ rfl ?_) | (refine IxV.gen ?_)) | ((with_reducible show CallV _ _ _ _ _ _ _ _); (first | (refine CallV.pure _ inferInstance (fun w' L' hL' hw' => side_any _ hgq high w') ?_) | (refine CallV.new inferInstance (fun w' L' hL' hw' => hfirst w' (hL'.row (i := 1000) rfl hw') (hL'.row (i := 19) rfl hw') (hL'.row (i := 22) rfl hw') (hB.at_ (hL'.own_bag (i := 9000) rfl hw') hI.ch (by omega) hI.pos)) ?_))) | ((with_reducible show CallP _ _ _ _ _ _ _ _); (first | (refine CallV.pure _ inferInstance (fun w' L' hL' hw' => side_any _ hgq high w') ?_) | (refine CallV.new inferInstance (fun w' L' hL' hw' => hfirst w' (hL'.row (i := 1000) rfl hw') (hL'.row (i := 19) rfl hw') (hL'.row (i := 22) rfl hw') (hB.at_ (hL'.own_bag (i := 9000) rfl hw') hI.ch (by omega) hI.pos)) ?_))) | (with_reducible exact trivial) | (with_reducible exact fun _ _ => trivial) | ((with_reducible show Known _ _ _ _ _ _ _ _); (fail "not known")) | (fail "no more")))))
      rename_i x _
      show FinV _ _ _ _ _
      refine FinV.new x rfl trivial rfl rfl ⟨⟨rfl, rfl, rfl, rfl, rfl, rfl, fun j hj => ⟨rfl, rfl⟩⟩, trivial⟩
end Go.Proofs.Ytikaonfnaobciaa
