/- Operations that turn memory, computed; calls by contract. -/
import Derived.Test.YtikaonfnaobciaaVc
namespace Go.Proofs.Ytikaonfnaobciaa
open Go.RowKit
set_option linter.unusedVariables false
set_option linter.unusedSimpArgs false

/-! ### Lists -/
theorem Rep.last {b : Nat} {o o' : Obj} : ∀ (A : List (Nat × Obj)), Rep b o o' (A ++ [(b, o)]) (A ++ [(b, o')])
  | [] => .head
  | _ :: A => .tail (Rep.last A)
theorem setAll_get : ∀ (vs l : List Value) (o i : Nat), o + vs.length ≤ l.length → (setAll l o vs)[i]? = if o ≤ i ∧ i < o + vs.length then vs[i - o]? else l[i]?
  | [], l, o, i, _ => by simp [setAll]; omega
  | v :: vs, l, o, i, h => by
    simp only [List.length_cons] at h
    rw [setAll, setAll_get vs (l.set o v) (o + 1) i (by simp; omega)]
    by_cases h1 : o + 1 ≤ i ∧ i < o + 1 + vs.length
    · rw [if_pos h1, if_pos (by simp; omega), show i - o = (i - (o + 1)) + 1 by omega]; simp
    · rw [if_neg h1]
      by_cases h2 : o = i
      · subst h2
        rw [if_pos (by simp), List.getElem?_set_self (by omega)]; simp
      · rw [if_neg (by simp; omega), List.getElem?_set_ne h2]
theorem piece_ext {l m : List Value} {a b n : Nat} (h : ∀ i, i < n → l[a + i]? = m[b + i]?) : (l.drop a).take n = (m.drop b).take n := by
  refine List.ext_getElem? fun i => ?_
  rw [List.getElem?_take, List.getElem?_take]
  split
  · rw [List.getElem?_drop, List.getElem?_drop]; exact h i (by assumption)
  · rfl
def flatN : Nat → (Nat → List Value) → List Value
  | 0, _ => []
  | m + 1, g => g 0 ++ flatN m fun j => g (j + 1)
theorem flatN_length {n : Nat} : ∀ {m : Nat} {g : Nat → List Value}, (∀ j, j < m → (g j).length = n) → (flatN m g).length = m * n
  | 0, _, _ => by simp [flatN]
  | m + 1, g, h => by
    simp only [flatN, List.length_append, h 0 (by omega), flatN_length (m := m) (g := fun j => g (j + 1)) fun j hj => h (j + 1) (by omega), Nat.add_one_mul]
    omega
theorem flatN_get {n : Nat} : ∀ {m : Nat} {g : Nat → List Value}, (∀ j, j < m → (g j).length = n) → ∀ i u, (flatN m g)[i]? = some u → ∃ j q, j < m ∧ q < n ∧ i = j * n + q ∧ (g j)[q]? = some u
  | 0, _, _, i, u, h => by simp [flatN] at h
  | m + 1, g, hl, i, u, h => by
    have h0 := hl 0 (by omega)
    simp only [flatN] at h
    by_cases hi : i < n
    · rw [List.getElem?_append_left (by omega)] at h
      exact ⟨0, i, by omega, hi, by omega, h⟩
    · rw [List.getElem?_append_right (by omega), h0] at h
      obtain ⟨j, q, h1, h2, h3, h4⟩ := flatN_get (fun j hj => hl (j + 1) (by omega)) _ u h
      exact ⟨j + 1, q, by omega, h2, by rw [Nat.add_one_mul]; omega, h4⟩
theorem flatN_piece {n : Nat} : ∀ {m : Nat} {g : Nat → List Value}, (∀ j, j < m → (g j).length = n) → ∀ j, j < m → ((flatN m g).drop (j * n)).take n = g j
  | 0, _, _, j, h => by omega
  | m + 1, g, hl, j, hj => by
    have h0 := hl 0 (by omega)
    simp only [flatN]
    cases j with
    | zero => simp [h0]
    | succ j =>
      rw [show (j + 1) * n = n + j * n by rw [Nat.add_one_mul]; omega, ← h0, ← List.drop_drop, List.drop_left, h0]
      exact flatN_piece (fun j hj => hl (j + 1) (by omega)) j (by omega)
theorem flatN_all {m : Nat} {g : Nat → List Value} {p : Value → Prop} (h : ∀ j, j < m → ∀ u ∈ g j, p u) : ∀ u ∈ flatN m g, p u := by
  induction m generalizing g with
  | zero => simp [flatN]
  | succ m ih =>
    intro u hu
    rcases List.mem_append.1 hu with hu | hu
    · exact h 0 (by omega) u hu
    · exact ih (fun j hj => h (j + 1) (by omega)) u hu
theorem ones_mem : ∀ {l : List SV}, SV.ones l → ∀ u ∈ SV.vals l, u.oneCell' = true
  | [], _, u, hu => by simp [SV.vals] at hu
  | x :: r, h, u, hu => by
    simp only [SV.vals, List.mem_cons] at hu
    rcases hu with rfl | hu
    · exact SV.one_cell h.1
    · exact ones_mem h.2 u hu

/-! ### Rows -/
def updF (f : Nat → SV) (j : Nat) (v : SV) : Nat → SV := fun x => if x = j then v else f x
def appF (len : Nat) (f g : Nat → SV) (st : Option Nat) : Nat → SV := fun x => if x < len then f x else g (addn st (x - len))
def chunk (ag : Bool) (n : Nat) (l : List SV) (j : Nat) : SV := match ag with
  | true => match takeS n (dropS (j * n) l) with
    | some t => .agg t
    | none => .v undef
  | false => match nthS l (j * n) with
    | some s => s
    | none => .v undef
theorem nth_one : ∀ {l : List SV} {k : Nat} {s : SV}, SV.ones l → l[k]? = some s → s.one
  | [], _, _, _, h => by simp at h
  | x :: r, 0, s, h, e => by simp at e; subst e; exact h.1
  | x :: r, k + 1, s, h, e => nth_one h.2 (by simpa using e)
theorem takeS_some {α : Type} : ∀ {n : Nat} {l : List α}, n ≤ l.length → takeS n l = some (l.take n)
  | 0, _, _ => by simp [takeS]
  | n + 1, [], h => by simp at h
  | n + 1, x :: r, h => by simp [takeS, takeS_some (n := n) (l := r) (by simpa using h)]
theorem chunk_cs {ag : Bool} {n j : Nat} {l : List SV} (h : ag = true ∨ (n = 1 ∧ SV.ones l)) (hj : j * n + n ≤ l.length) : (chunk ag n l j).cs = (l.drop (j * n)).take n := by
  cases ag with
  | true =>
    simp only [chunk, dropS_eq]
    rw [takeS_some (by simp; omega)]
    rfl
  | false =>
    rcases h with h | ⟨rfl, h⟩
    · cases h
    · have hlt : j < l.length := by omega
      simp only [chunk, Nat.mul_one, nthS_eq, List.getElem?_eq_getElem hlt]
      rw [SV.one_cs (nth_one h (List.getElem?_eq_getElem hlt))]
      rw [List.drop_eq_getElem_cons hlt, List.take_succ_cons, List.take_zero]
def reE (old : SV) (l : List SV) (k : SV → Prop) : Prop := match old with
  | .agg _ => k (.agg l)
  | _ => match l with
    | [x] => match x.oneB with
      | true => k x
      | false => False
    | _ => False
theorem reE_ok {old : SV} {l : List SV} {k : SV → Prop} (h : reE old l k) : ∃ e, k e ∧ e.cs = l := by
  unfold reE at h
  split at h
  · exact ⟨_, h, rfl⟩
  · split at h
    · split at h
      · rename_i hx; exact ⟨_, h, SV.one_cs (SV.oneB_ok hx)⟩
      · exact h.elim
    · exact h.elim
def zrowS : Nat → List SV → List SV
  | 0, _ => []
  | n + 1, zs => zs ++ zrowS n zs
theorem zrowS_vals : ∀ (n : Nat) (zs : List SV), SV.vals (zrowS n zs) = zrow n (SV.vals zs)
  | 0, _ => by simp [zrowS, zrow, SV.vals]
  | n + 1, zs => by simp [zrowS, zrow, vals_append, zrowS_vals n zs]
theorem zrow_flat (zs : List Value) : ∀ n, zrow n zs = flatN n fun _ => zs
  | 0 => rfl
  | n + 1 => by simp [zrow, flatN, zrow_flat zs n]

/-! ### The operations -/
def putE (N : Nat) (dst : Option Nat) (s : SV) (E : SEnv) (k : SEnv → Prop) : Prop := match dst with
  | none => k E
  | some d => match Nat.blt d N with
    | true => k ((d, s) :: E)
    | false => False

def vstore (T : Tr) (t : Nat) (s u : SV) (H : Heap) (k : Heap → Prop) : Prop := match T.get t with
  | none => False
  | some ti => match u.fitB, Nat.beq u.cs.length ti.size with
    | true, true => match s with
      | .ptr i b base o => match lkH H i with
        | some (.cells b' l T') => b = b' ∧ base = 0 ∧ match putS l o u.cs with
          | some l' => nrm l' fun l' => nrm (setH H i (.cells b' l' T')) k
          | none => False
        | _ => False
      | .elp i p n j o => match lkH H i with
        | some (.row true p' n' T' len cap f) => p = p' ∧ n = n' ∧ j < len ∧ match putS (f j).cs o u.cs with
          | some l' => nrm l' fun l' => reE (f j) l' fun e => nrm (setH H i (.row true p' n' T' len cap (updF f j e))) k
          | none => False
        | _ => False
      | _ => False
    | _, _ => False

/-- The callee, by its contract. -/
def CallV (P : Program) (w0 : World) (X D : List Nat) (H : Heap) (fk : Nat) (args : List SV) (k : SV → Heap → Prop) : Prop :=
  ∃ (ι : Type) (Z : ι → Prop) (vx : ι → SV) (Hx : ι → Heap) (fn : Func), FN P fk fn ∧
    (∀ w L, HR w0 X H L → Wd ⟨w0, X, L, D⟩ w → Calls P fk (SV.vals args).toArray w fun e w' => ∃ x L', e = .returned (vx x).val ∧ Z x ∧ HR w0 X (Hx x) L' ∧ Wd ⟨w0, X, L', D⟩ w') ∧
    ∀ x, Z x → k (vx x) (Hx x)
/-- .. one that hands back a value, and turns nothing. -/
def CallP (P : Program) (w0 : World) (X D : List Nat) (H : Heap) (fk : Nat) (args : List SV) (k : SV → Prop) : Prop :=
  ∃ (v : SV) (fn : Func), FN P fk fn ∧ (∀ w L, HR w0 X H L → Wd ⟨w0, X, L, D⟩ w → Pure_ P fk (SV.vals args) v.val w) ∧ k v

def sliceT (T : Tr) (t : Nat) : Option (Nat × TInf) := match T.get t with
  | some i => (match i.u with
    | .slice e => match T.get e with | some te => some (e, te) | none => none
    | _ => none)
  | none => none

/-- One row behind another: m elements of g, from st on, that lie at p. -/
def vapp (y : Nat × TInf) (z : SV) (d : Nat) (s : SV) (H : Heap) (n2 : Nat) (st2 : Option Nat) (m : Nat) (g : Nat → SV) (known : Prop) (k : SV → Heap → Prop) : Prop := match s with
  | .sl i p n st len cap => match Nat.beq n n2, lkH H i with
    | true, some (.row true p' n' T' len' cap' f) => (m = 0 → len ≤ cap ∧ k s H) ∧ (0 < m → (p = p' ∧ n = n' ∧ T' = y.1 ∧ st = none ∧ len = len' ∧ cap = cap') ∧ known ∧ (∀ j, j < m → addK st2 j fun j => (g j).fit) ∧ ((len + m) * y.2.bytes ≤ 140737488355328 ∧ len + m ≤ 140737488355328) ∧
        ∀ b c, len + m ≤ c → nrm (setH H i (.row true (some ⟨b, 0, none⟩) n' T' (len + m) c (appF len f g st2))) fun H' => k (.sl i (some ⟨b, 0, none⟩) n none (len + m) c) H')
    | _, _ => False
  | .v (.slice none 0 0) => (m = 0 → k s H) ∧ (0 < m → known ∧ (∀ j, j < m → addK st2 j fun j => (g j).fit) ∧ (m * y.2.bytes ≤ 140737488355328 ∧ m ≤ 140737488355328) ∧
        ∀ b c, m ≤ c → k (.sl d (some ⟨b, 0, none⟩) n2 none m c) ((d, .row true (some ⟨b, 0, none⟩) n2 y.1 m c (appF 0 (fun _ => z) g st2)) :: H))
  | _ => False
/-- What lies at p is known, though no entry tells it. -/
def Known (w0 : World) (X D : List Nat) (H : Heap) (p : Option Addr) (n len : Nat) (g : Nat → SV) : Prop := ∀ w L, HR w0 X H L → Wd ⟨w0, X, L, D⟩ w → RowAt w p n len g
def vappend (T : Tr) (w0 : World) (X D : List Nat) (t d : Nat) (s u : SV) (H : Heap) (k : SV → Heap → Prop) : Prop := match sliceT T t with
  | none => False
  | some y => match y.2.zero with
    | none => False
    | some z => match z.fitB, Nat.beq z.cs.length y.2.size, Nat.blt 0 y.2.size with
      | true, true, true => match u with
        | .sl i2 p2 n2 st2 m c2 => match Nat.beq n2 y.2.size with
          | true => match lkH H i2 with
            | some (.row _ p2' n2' _ len2 _ g) => vapp y z d s H n2 st2 m g (p2 = p2' ∧ n2 = n2' ∧ addn st2 m ≤ len2) k
            | _ => ∃ g, vapp y z d s H n2 st2 m g (Known w0 X D H p2 n2 (addn st2 m) g) k
          | false => False
        | .v (.slice none 0 0) => match s with
          | .sl i p n st len cap => len ≤ cap ∧ k s H
          | .v (.slice none 0 0) => k s H
          | _ => False
        | _ => False
      | _, _, _ => False

def vbuildSlice (T : Tr) (N t len d : Nat) (ps : List (Nat × Operand)) (E : SEnv) (H : Heap) (k : SEnv → Heap → Prop) : Prop := match sliceT T t with
  | some y => match y.2.zero with
    | some z => match z.fitB, Nat.beq z.cs.length y.2.size, Nat.blt d N with
      | true, true, true => match len with
        | 0 => match ps with
          | [] => ∀ b, k ((d, .sl d (some ⟨b, 0, none⟩) y.2.size none 0 0) :: E) ((d, .row true (some ⟨b, 0, none⟩) y.2.size y.1 0 0 (fun _ => z)) :: H)
          | _ :: _ => False
        | len + 1 => match Nat.blt 0 y.2.size, Nat.ble ((len + 1) * y.2.size) 16777216, (match y.2.agg with | true => true | false => Nat.beq y.2.size 1) with
          | true, true, true => fillS ((List.range (len + 1)).map fun k => (k * y.2.size, y.2.size)) E ps (zrowS (len + 1) z.cs) fun l => match SV.onesB l with
            | true => nrm l fun l => ∀ b, k ((d, .sl d (some ⟨b, 0, none⟩) y.2.size none (len + 1) (len + 1)) :: E) ((d, .row true (some ⟨b, 0, none⟩) y.2.size y.1 (len + 1) (len + 1) (chunk y.2.agg y.2.size l)) :: H)
            | false => False
          | _, _, _ => False
      | _, _, _ => False
    | none => False
  | none => False

def vop (P : Program) (T : Tr) (N : Nat) (w0 : World) (X D : List Nat) (o : Oper) (E : SEnv) (H : Heap) (k : SEnv → Heap → Prop) : Prop := match o.op with
  | .store t a x => match o.dst with
    | none => get1 E a fun s => get1 E x fun u => vstore T t s u H fun H' => k E H'
    | some _ => False
  | .alloc t => match o.dst, T.get t with
    | some d, some ti => match ti.zero with
      | some z => match z.fitB, Nat.blt d N with
        | true, true => nrm z.cs fun l => ∀ b, k ((d, .ptr d b 0 0) :: E) ((d, .cells b l t) :: H)
        | _, _ => False
      | none => False
    | _, _ => False
  | .box t x => match o.dst with
    | some d => get1 E x fun z => match z.fitB, Nat.blt d N with
      | true, true => nrm z.cs fun l => ∀ b, k ((d, .ptr d b 0 0) :: E) ((d, .cells b l t) :: H)
      | _, _ => False
    | none => False
  | .buildSlice t len ps => match o.dst with
    | some d => vbuildSlice T N t len d ps.toList E H k
    | none => False
  | .makeSlice t l c => match o.dst, sliceT T t with
    | some d, some y => match y.2.zero with
      | some z => match z.fitB, Nat.beq z.cs.length y.2.size, Nat.blt d N with
        | true, true, true => get1 E l fun s => get1 E c fun u => match s, u with
          | .int _ l, .int _ c => (0 ≤ l ∧ l ≤ c) ∧ ((y.2.bytes : Int) * c ≤ 281474976710656 ∧ c ≤ 281474976710656) ∧ IxV l fun l => IxV c fun c =>
              ∀ b, k ((d, .sl d (some ⟨b, 0, none⟩) y.2.size none l c) :: E) ((d, .row true (some ⟨b, 0, none⟩) y.2.size y.1 l c (fun _ => z)) :: H)
          | _, _ => False
        | _, _, _ => False
      | none => False
    | _, _ => False
  | .call c => match c.callee with
    | .builtin .append => match o.dst, c.argTypes.toList, c.args.toList with
      | some d, [t, t'], [x, y] => match Nat.beq t t', Nat.blt d N with
        | true, true => get1 E x fun s => get1 E y fun u => vappend T w0 X D t d s u H fun v H' => k ((d, v) :: E) H'
        | _, _ => False
      | _, _, _ => False
    | .value f => get1 E f fun s => match s with
      | .fn (.func fk) fs cs => getL E c.args.toList fun l => CallV P w0 X D H fk (fs ++ l ++ cs) fun v H' => putE N o.dst v E fun E' => k E' H'
      | _ => False
    | _ => vpure P T o.op E H fun s => putE N o.dst s E fun E' => k E' H
  | _ => vpure P T o.op E H fun s => putE N o.dst s E fun E' => k E' H

section
variable {P : Program} {T : Tr} {N : Nat} {E : SEnv} {D : List Nat} {H : Heap} {w0 : World} {X : List Nat} {L : List (Nat × Obj)} {r : Option Nat}
variable {ty : TypeId} {pos : String} {aft : Array Edge} {dst : Option Tmp} {g : Option (Nat × Bool)} {K : Act → World → Prop}

theorem sliceT_ok {t : Nat} {y : Nat × TInf} (hT : T.All P) (h : sliceT T t = some y) : UL P t (.slice y.1) ∧ TOk P y.1 y.2 := by
  unfold sliceT at h
  split at h
  · rename_i i hi
    have hu := (Tr.get_ok hT hi).u
    split at h
    · rename_i e he
      rw [he] at hu
      split at h
      · rename_i te hte
        simp at h; subst h
        exact ⟨hu, Tr.get_ok hT hte⟩
      · cases h
    · cases h
  · cases h

theorem VSt.val {op : Op} {s : SV} {k : SEnv → Heap → Prop} (hL : HR w0 X H L) (hy : Y P N (venv E) D ⟨w0, X, L, D⟩ ⟨dst, op, ty, pos, aft, g⟩ s.val) (h : putE N dst s E fun E' => k E' H) (hk : ∀ E' H', k E' H' → VSt N w0 X E' H' D K) :
    St N (venv E) D ⟨w0, X, L, D⟩ (Op1 P r ⟨dst, op, ty, pos, aft, g⟩ K) := by
  cases dst with
  | none => exact fun a w ha hw => by unfold Op1; rw [hy a w ha hw]; exact hk _ _ h L hL _ w (ha.put_none _) hw
  | some d =>
    unfold putE at h
    split at h
    · cases ‹some d = none›
    · rename_i d' he
      cases he
      split at h
      · rename_i hd
        exact St.val hy hd (hk _ _ h L hL)
      · exact h.elim

theorem St.put_turn {A L' : List (Nat × Obj)} {b : Nat} {o : Obj} {H' : Heap} (hL' : HR w0 X H' L') (hp : L'.Perm (A ++ [(b, o)])) (hk : VSt N w0 X E H' D K) : St N (venv E) D ⟨w0, X, A ++ [(b, o)], D⟩ K :=
  St.permL hp.symm (hk L' hL')

theorem vstore_ok {t : Nat} {s u : SV} {a x : Operand} {k : Heap → Prop} (hT : T.All P) (h : vstore T t s u H k) (hL : HR w0 X H L) (ha : ev (venv E) a = some s.val) (hx : ev (venv E) x = some u.val) (hk : ∀ H', k H' → VSt N w0 X E H' D K) :
    St N (venv E) D ⟨w0, X, L, D⟩ (Op1 P r ⟨none, .store t a x, ty, pos, aft, g⟩ K) := by
  unfold vstore at h
  split at h
  · exact h.elim
  · rename_i ti hti
    have ht := Tr.get_ok hT hti
    split at h
    · rename_i hf hl
      have hfit := SV.fitB_ok hf
      have hl := Nat.eq_of_beq_eq_true hl
      have hones := SV.ones_all (SV.fit_ones hfit)
      split at h
      · rename_i i b base o
        split at h
        · rename_i b' l T' hlk
          obtain ⟨rfl, rfl, h⟩ := h
          split at h
          · rename_i l' hp
            rw [nrm_iff, nrm_iff] at h
            obtain ⟨h1, h2, h3⟩ := putS_set hp
            obtain ⟨M, A, hM, hperm, hre⟩ := hL.split hlk
            cases hM
            obtain ⟨L', hL', hp'⟩ := hre (.cells b l' T') _ .cells
            simp only [SV.val, Nat.zero_add] at ha
            exact St.permL hperm (St.store ha hx (SV.fit_cells hfit) (z := ht.sz) (by rw [vals_length]; exact hl) (Rep.last A) h1 hones (St.put_turn hL' hp' (hk _ h)))
          · exact h.elim
        · exact h.elim
      · rename_i i p n j o
        split at h
        · rename_i p' n' T' len cap f hlk
          obtain ⟨rfl, rfl, hj, h⟩ := h
          split at h
          · rename_i l' hp
            rw [nrm_iff] at h
            obtain ⟨e, h, he⟩ := reE_ok h
            rw [nrm_iff] at h
            obtain ⟨h1, h2, h3⟩ := putS_set hp
            obtain ⟨M, A, hM, hperm, hre⟩ := hL.split hlk
            cases hM with
            | own hM =>
            rcases hM with ⟨_, h0, _⟩ | ⟨b, cur, rfl, rfl, hc, hlc, hmx, hcs⟩
            · omega
            · have hcj := hcs j hj
              have hjn : (j + 1) * n ≤ cap * n := Nat.mul_le_mul_right _ (by omega)
              rw [Nat.add_one_mul] at hjn
              have hv : (SV.vals u.cs).length = u.cs.length := vals_length _
              have hlen : j * n + o + (SV.vals u.cs).length ≤ cur.length := by rw [hv, hc]; omega
              have hset := h1.all
              obtain ⟨L', hL', hp'⟩ := hre (.row true (some ⟨b, 0, none⟩) n T' len cap (updF f j e)) [(b, .cells (setAll cur (j * n + o) (SV.vals u.cs)).toArray T' (0, 0))] (.own (.inr ⟨b, _, rfl, rfl, by rw [setAll_length]; exact hc, hlc, hmx, fun x hx => by
                by_cases hxj : x = j
                · subst hxj
                  simp only [updF, if_true, he]
                  refine ⟨?_, by rw [h2]; exact hcj.2⟩
                  rw [← hset]
                  refine List.ext_getElem? fun i => ?_
                  rw [List.getElem?_take, setAll_get _ _ _ _ (by simp only [vals_length]; exact h3)]
                  have hci := congrArg (·[i]?) hcj.1
                  simp only [List.getElem?_take] at hci
                  rw [List.getElem?_drop] at hci ⊢
                  split
                  · rename_i hi
                    rw [if_pos hi] at hci
                    rw [setAll_get _ _ _ _ hlen]
                    by_cases hc1 : o ≤ i ∧ i < o + (SV.vals u.cs).length
                    · rw [if_pos hc1, if_pos (by omega)]; congr 1; omega
                    · rw [if_neg hc1, if_neg (by omega)]; exact hci
                  · rename_i hi
                    rw [if_neg hi] at hci
                    rw [if_neg (by rw [hv]; have := hcj.2; omega)]; exact hci
                · have hxe : updF f j e x = f x := by simp [updF, hxj]
                  rw [hxe]
                  refine ⟨?_, (hcs x hx).2⟩
                  rw [← (hcs x hx).1]
                  refine piece_ext fun i hi => ?_
                  rw [setAll_get _ _ _ _ hlen, if_neg]
                  have hcj2 := hcj.2
                  rcases Nat.lt_or_gt_of_ne hxj with hlt | hgt
                  · have : (x + 1) * n ≤ j * n := Nat.mul_le_mul_right _ hlt
                    rw [Nat.add_one_mul] at this; omega
                  · have : (j + 1) * n ≤ x * n := Nat.mul_le_mul_right _ hgt
                    rw [Nat.add_one_mul] at this; omega⟩))
              simp only [SV.val, pb, po, Nat.zero_add] at ha
              exact St.permL hperm (St.store ha hx (SV.fit_cells hfit) (z := ht.sz) (by rw [vals_length]; exact hl) (Rep.last A) (SetAt.of hlen) hones (St.put_turn hL' hp' (hk _ h)))
          · exact h.elim
        · exact h.elim
      · exact h.elim
    · exact h.elim

theorem alloc_ok {t d : Nat} {z : SV} {o : Oper} (ho : o.dst = some d) (hf : z.fitB = true) (hd : Nat.blt d N = true) (hL : HR w0 X H L)
    (hrun : ∀ a w, Fr N (venv E) D a → Wd ⟨w0, X, L, D⟩ w → (execOp a.eval o).run P w = .ok (.value (.pointer (some ⟨w.heap.size, 0, none⟩))) (w.alloc (.cells (SV.vals z.cs).toArray t)))
    (hk : ∀ b, VSt N w0 X ((d, .ptr d b 0 0) :: E) ((d, .cells b z.cs t) :: H) D K) : St N (venv E) D ⟨w0, X, L, D⟩ (Op1 P r o K) := by
  obtain ⟨dst, op, ty, pos, aft, g⟩ := o
  simp only at ho; subst ho
  exact St.newcells hrun hd fun b => hk b _ (.cons .cells hL)
end
end Go.Proofs.Ytikaonfnaobciaa
