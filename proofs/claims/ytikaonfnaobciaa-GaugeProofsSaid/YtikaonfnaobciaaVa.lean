/- Values and memory as a computed walk sees them: which known block a pointer leads into, what the block holds. Nothing here speaks of one program. -/
import Derived.Test.YtikaonfnaobciaaSxN
namespace Go.Proofs.Ytikaonfnaobciaa
open Go.RowKit
set_option linter.unusedVariables false

/-! ### Values -/
inductive SV where
  | int (k : IntKind) (n : Int)
  | bool (b : Bool)
  | ptr (i b base o : Nat)
  | elp (i : Nat) (p : Option Addr) (n j o : Nat)
  | sl (i : Nat) (p : Option Addr) (n : Nat) (st : Option Nat) (len cap : Nat)
  | slc (i b o n len cap : Nat)
  | agg (l : List SV)
  | tup (l : List SV)
  | fn (f : Fn) (fs cs : List SV)
  | v (x : Value)

def pb (p : Option Addr) : Nat := match p with | some a => a.block | none => 0
def po (p : Option Addr) : Nat := match p with | some a => a.off | none => 0
/-- Where a piece of a row begins: at its start, or behind so many elements. -/
def stN : Option Nat → Nat
  | none => 0
  | some s => s
theorem stN_some (s : Nat) : stN (some s) = s := rfl
def advp (p : Option Addr) (n : Nat) : Option Nat → Option Addr
  | none => p
  | some s => some ⟨pb p, po p + s * n, none⟩
def addn : Option Nat → Nat → Nat
  | none, m => m
  | some s, m => s + m
theorem addn_eq (k : Option Nat) (m : Nat) : addn k m = stN k + m := by cases k <;> simp [addn, stN]
def addK : Option Nat → Nat → (Nat → Prop) → Prop
  | none, m, k => k m
  | some s, m, k => k (s + m)
theorem addK_iff {st : Option Nat} {m : Nat} {k : Nat → Prop} : addK st m k ↔ k (addn st m) := by cases st <;> exact Iff.rfl
def addO : Option Nat → Nat → (Option Nat → Prop) → Prop
  | none, m, k => k (some m)
  | some s, m, k => k (some (s + m))
theorem addO_iff {st : Option Nat} {m : Nat} {k : Option Nat → Prop} : addO st m k ↔ k (some (addn st m)) := by cases st <;> exact Iff.rfl
/-- An index, as a natural number. -/
def IxV (m : Int) (k : Nat → Prop) : Prop := k m.toNat
theorem IxV.nat {m : Int} {k : Nat → Prop} (j : Nat) (h : m = (j : Int)) (hk : k j) : IxV m k := by subst h; simpa [IxV] using hk
theorem IxV.gen {m : Int} {k : Nat → Prop} (hk : k m.toNat) : IxV m k := hk

mutual
def SV.val : SV → Value
  | .int k n => .int k n
  | .bool b => .bool b
  | .ptr _ b base o => .pointer (some ⟨b, base + o, none⟩)
  | .elp _ p n j o => .pointer (some ⟨pb p, po p + j * n + o, none⟩)
  | .sl _ p n st len cap => .slice (advp p n st) len cap
  | .slc _ b o _ len cap => .slice (some ⟨b, o, none⟩) len cap
  | .agg l => .agg (SV.vals l).toArray
  | .tup l => .tuple (SV.vals l).toArray
  | .fn f fs cs => .func f (SV.vals fs).toArray (SV.vals cs).toArray
  | .v x => x
def SV.vals : List SV → List Value
  | [] => []
  | x :: r => x.val :: SV.vals r
end

theorem vals_map : ∀ l : List SV, SV.vals l = l.map SV.val
  | [] => by simp [SV.vals]
  | x :: r => by simp [SV.vals, vals_map r]
theorem vals_length (l : List SV) : (SV.vals l).length = l.length := by simp [vals_map]
theorem vals_get (l : List SV) (j : Nat) : (SV.vals l)[j]? = (l[j]?).map SV.val := by simp [vals_map]
theorem vals_append (l m : List SV) : SV.vals (l ++ m) = SV.vals l ++ SV.vals m := by simp [vals_map]

/-- The cells that a value takes. -/
def SV.cs : SV → List SV
  | .agg l => l
  | s => [s]
/-- A value of one cell. -/
def SV.one : SV → Prop
  | .agg _ => False
  | .tup _ => False
  | .v x => x.oneCell' = true
  | _ => True
def SV.ones : List SV → Prop
  | [] => True
  | x :: r => x.one ∧ SV.ones r
/-- One that may be stored: an aggregate of cells, or one cell. -/
def SV.fit : SV → Prop
  | .agg l => SV.ones l
  | s => s.one
def SV.oneB : SV → Bool
  | .agg _ => false
  | .tup _ => false
  | .v x => x.oneCell'
  | _ => true
def SV.onesB : List SV → Bool
  | [] => true
  | x :: r => match x.oneB with | true => SV.onesB r | false => false
def SV.fitB : SV → Bool
  | .agg l => SV.onesB l
  | s => s.oneB
theorem SV.oneB_ok {s : SV} (h : s.oneB = true) : s.one := by cases s <;> first | trivial | exact h | cases h
theorem SV.onesB_ok : ∀ {l : List SV}, SV.onesB l = true → SV.ones l
  | [], _ => trivial
  | x :: r, h => by
    simp only [SV.onesB] at h
    split at h
    · rename_i hx; exact ⟨SV.oneB_ok hx, SV.onesB_ok h⟩
    · cases h
theorem SV.fitB_ok {s : SV} (h : s.fitB = true) : s.fit := by
  cases s with
  | agg l => exact SV.onesB_ok h
  | tup l => cases h
  | v x => exact h
  | _ => trivial
theorem SV.one_cell {s : SV} (h : s.one) : s.val.oneCell' = true := by
  cases s <;> simp [SV.one, SV.val, Value.oneCell'] at h ⊢
  exact h
theorem SV.ones_all : ∀ {l : List SV}, SV.ones l → (SV.vals l).all Value.oneCell' = true
  | [], _ => rfl
  | x :: r, h => by simp only [SV.vals, List.all_cons, SV.one_cell h.1, SV.ones_all h.2, Bool.and_self]
theorem SV.one_cs {s : SV} (h : s.one) : s.cs = [s] := by cases s <;> first | rfl | exact h.elim
theorem SV.fit_ones {s : SV} (h : s.fit) : SV.ones s.cs := by
  cases s <;> first | exact h | exact ⟨h, trivial⟩ | exact h.elim
theorem oneCell_cells {x : Value} (h : x.oneCell' = true) : x.cells = #[x] := by cases x <;> first | rfl | (simp [Value.oneCell'] at h)
theorem SV.fit_cells {s : SV} (h : s.fit) : s.val.cells = (SV.vals s.cs).toArray := by
  cases s with
  | agg l => simp [SV.val, Value.cells, SV.cs]
  | tup l => exact h.elim
  | v x => simpa [SV.val, SV.cs, SV.vals] using oneCell_cells h
  | _ => simp [SV.val, Value.cells, SV.cs, SV.vals]

/-! ### Temporaries -/
abbrev SEnv := List (Nat × SV)
def venv : SEnv → Env
  | [] => []
  | x :: r => (x.1, x.2.val) :: venv r
def lk : SEnv → Nat → Option SV
  | [], _ => none
  | (k, s) :: r, t => bif Nat.beq k t then some s else lk r t
theorem look_venv : ∀ (E : SEnv) (t : Nat), look (venv E) t = (lk E t).map SV.val
  | [], _ => rfl
  | (k, s) :: r, t => by
    simp only [venv, look, lk, look_venv r t]
    cases Nat.beq k t <;> rfl

def ofV1 : Value → SV
  | .int k n => .int k n
  | .bool b => .bool b
  | x => .v x
def ofV : Value → SV
  | .agg cs => .agg (cs.toList.map ofV1)
  | x => ofV1 x
theorem ofV1_val (x : Value) : (ofV1 x).val = x := by cases x <;> rfl
theorem ofV_val (x : Value) : (ofV x).val = x := by
  cases x <;> first | rfl | simp [ofV, SV.val, vals_map, ofV1_val, Function.comp_def]
def es (E : SEnv) : Operand → Option SV
  | .tmp t => lk E t
  | .const c => some (ofV c)
  | .global g => some (.v (.pointer (some ⟨g, 0, none⟩)))
  | .func f => some (.fn (.func f) [] [])
theorem es_ev {E : SEnv} {x : Operand} {s : SV} (h : es E x = some s) : ev (venv E) x = some s.val := by
  cases x with
  | tmp t => simp only [es] at h; simp [ev, look_venv, h]
  | const c => simp only [es, Option.some.injEq] at h; subst h; simp [ev, ofV_val]
  | global g => simp only [es, Option.some.injEq] at h; subst h; rfl
  | func f => simp only [es, Option.some.injEq] at h; subst h; simp [ev, SV.val, SV.vals]

def get1 (E : SEnv) (x : Operand) (k : SV → Prop) : Prop := match es E x with | some s => k s | none => False
theorem get1_ok {E : SEnv} {x : Operand} {k : SV → Prop} (h : get1 E x k) : ∃ s, ev (venv E) x = some s.val ∧ k s := by
  unfold get1 at h
  split at h
  · rename_i s hs; exact ⟨s, es_ev hs, h⟩
  · exact h.elim
def getL (E : SEnv) : List Operand → (List SV → Prop) → Prop
  | [], k => k []
  | x :: r, k => get1 E x fun s => getL E r fun l => k (s :: l)
theorem getL_ok {E : SEnv} : ∀ {xs : List Operand} {k : List SV → Prop}, getL E xs k → ∃ l, Args (venv E) xs (SV.vals l) ∧ k l
  | [], k, h => ⟨[], .nil, h⟩
  | x :: r, k, h => by
    obtain ⟨s, hs, h⟩ := get1_ok h
    obtain ⟨l, hl, h⟩ := getL_ok h
    exact ⟨s :: l, .cons hs hl, h⟩

/-- A list, written out. -/
def nrm {α : Type} : List α → (List α → Prop) → Prop
  | [], k => k []
  | x :: r, k => nrm r fun r' => k (x :: r')
theorem nrm_iff {α : Type} : ∀ {l : List α} {k : List α → Prop}, nrm l k ↔ k l
  | [], _ => Iff.rfl
  | x :: r, k => nrm_iff (l := r) (k := fun r' => k (x :: r'))

/-! ### Lists -/
def nthS {α : Type} : List α → Nat → Option α
  | [], _ => none
  | x :: _, 0 => some x
  | _ :: r, k + 1 => nthS r k
theorem nthS_eq {α : Type} : ∀ (l : List α) (k : Nat), nthS l k = l[k]?
  | [], _ => rfl
  | _ :: _, 0 => rfl
  | _ :: r, k + 1 => by simpa [nthS] using nthS_eq r k
def takeS {α : Type} : Nat → List α → Option (List α)
  | 0, _ => some []
  | _ + 1, [] => none
  | n + 1, x :: r => match takeS n r with | some t => some (x :: t) | none => none
def dropS {α : Type} : Nat → List α → List α
  | 0, l => l
  | _ + 1, [] => []
  | n + 1, _ :: r => dropS n r
theorem dropS_eq {α : Type} : ∀ (n : Nat) (l : List α), dropS n l = l.drop n
  | 0, _ => rfl
  | _ + 1, [] => rfl
  | n + 1, _ :: r => by simpa [dropS] using dropS_eq n r
theorem takeS_eq {α : Type} : ∀ {n : Nat} {l t : List α}, takeS n l = some t → t.length = n ∧ l.take n = t
  | 0, _, t, h => by simp [takeS] at h; subst h; simp
  | _ + 1, [], t, h => by simp [takeS] at h
  | n + 1, x :: r, t, h => by
    simp only [takeS] at h
    split at h
    · rename_i u hu
      obtain ⟨h1, h2⟩ := takeS_eq hu
      simp at h; subst h
      simp [h1, h2]
    · cases h
/-- The entries from o on turned. -/
def putS {α : Type} : List α → Nat → List α → Option (List α)
  | l, 0, [] => some l
  | [], 0, _ :: _ => none
  | _ :: r, 0, s :: ss => match putS r 0 ss with | some t => some (s :: t) | none => none
  | [], _ + 1, _ => none
  | x :: r, o + 1, ss => match putS r o ss with | some t => some (x :: t) | none => none
theorem putS_set : ∀ {l : List SV} {o : Nat} {ss l' : List SV}, putS l o ss = some l' → SetAt o (SV.vals ss) (SV.vals l) (SV.vals l') ∧ l'.length = l.length ∧ o + ss.length ≤ l.length
  | l, 0, [], l', h => by simp [putS] at h; subst h; exact ⟨.done, rfl, by simp⟩
  | [], 0, _ :: _, l', h => by simp [putS] at h
  | x :: r, 0, s :: ss, l', h => by
    simp only [putS] at h
    split at h
    · rename_i t ht
      simp at h; subst h
      obtain ⟨h1, h2, h3⟩ := putS_set ht
      exact ⟨.take h1, by simp [h2], by simp at h3 ⊢; omega⟩
    · cases h
  | [], _ + 1, _, l', h => by simp [putS] at h
  | x :: r, o + 1, ss, l', h => by
    simp only [putS] at h
    split at h
    · rename_i t ht
      simp at h; subst h
      obtain ⟨h1, h2, h3⟩ := putS_set ht
      exact ⟨.skip h1, by simp [h2], by simp at h3 ⊢; omega⟩
    · cases h
theorem GetAt.of : ∀ {o k : Nat} {l : List Value}, o + k ≤ l.length → GetAt o k l ((l.drop o).take k)
  | 0, 0, l, _ => by simpa using GetAt.zero
  | 0, k + 1, x :: r, h => by
    have := GetAt.of (o := 0) (k := k) (l := r) (by simp at h; omega)
    simpa using GetAt.take this
  | 0, k + 1, [], h => by simp at h
  | o + 1, k, x :: r, h => by
    have := GetAt.of (o := o) (k := k) (l := r) (by simp at h; omega)
    simpa using GetAt.skip this
  | o + 1, k, [], h => by simp at h
theorem SetAt.of : ∀ {o : Nat} {vs l : List Value}, o + vs.length ≤ l.length → SetAt o vs l (setAll l o vs)
  | 0, [], l, _ => .done
  | 0, v :: vs, x :: r, h => by
    have := SetAt.of (o := 0) (vs := vs) (l := r) (by simp at h ⊢; omega)
    simp only [setAll, List.set_cons_zero]
    rw [setAll_cons]; exact .take this
  | 0, v :: vs, [], h => by simp at h
  | o + 1, vs, x :: r, h => by
    have := SetAt.of (o := o) (vs := vs) (l := r) (by simp at h; omega)
    rw [setAll_cons]; exact .skip this
  | o + 1, vs, [], h => by simp at h

/-! ### Memory -/
/-- A row of len elements from p on, n cells each. -/
def RowAt (w : World) (p : Option Addr) (n len : Nat) (f : Nat → SV) : Prop :=
  ∀ j, j < len → p = some ⟨pb p, po p, none⟩ ∧ Cs w (pb p) (po p + j * n) (SV.vals (f j).cs) ∧ (f j).cs.length = n

inductive AO where
  | cells (b : Nat) (l : List SV) (T : Nat)
  | row (own : Bool) (p : Option Addr) (n T len cap : Nat) (f : Nat → SV)
  | xcells (b base : Nat) (l : List SV)
  | blk (b : Nat) (o : Obj)
  | bag (Ls : List (Nat × Obj))

def OwnRow (p : Option Addr) (n T len cap : Nat) (f : Nat → SV) (M : List (Nat × Obj)) : Prop :=
  (p = none ∧ len = 0 ∧ cap = 0 ∧ M = []) ∨
  ∃ b cur, p = some ⟨b, 0, none⟩ ∧ M = [(b, .cells (cur : List Value).toArray T (0, 0))] ∧ cur.length = cap * n ∧ len ≤ cap ∧ cap ≤ maxLen ∧ ∀ j, j < len → (cur.drop (j * n)).take n = SV.vals (f j).cs ∧ (f j).cs.length = n

inductive EntR (w0 : World) (X : List Nat) : AO → List (Nat × Obj) → Prop
  | cells {b : Nat} {l : List SV} {T : Nat} : EntR w0 X (.cells b l T) [(b, .cells (SV.vals l).toArray T (0, 0))]
  | own {p : Option Addr} {n T len cap : Nat} {f : Nat → SV} {M : List (Nat × Obj)} (h : OwnRow p n T len cap f M) : EntR w0 X (.row true p n T len cap f) M
  | ext {p : Option Addr} {n T len cap : Nat} {f : Nat → SV} (h : RowAt w0 p n len f) (hX : 0 < len → pb p ∉ X) : EntR w0 X (.row false p n T len cap f) []
  | xcells {b base : Nat} {l : List SV} (h : Cs w0 b base (SV.vals l)) (hX : b ∉ X) : EntR w0 X (.xcells b base l) []
  | blk {b : Nat} {o : Obj} : EntR w0 X (.blk b o) [(b, o)]
  | bag {Ls : List (Nat × Obj)} : EntR w0 X (.bag Ls) Ls

abbrev Heap := List (Nat × AO)
inductive HR (w0 : World) (X : List Nat) : Heap → List (Nat × Obj) → Prop
  | nil : HR w0 X [] []
  | cons {i : Nat} {a : AO} {H : Heap} {M L : List (Nat × Obj)} (h : EntR w0 X a M) (hs : HR w0 X H L) : HR w0 X ((i, a) :: H) (M ++ L)

def lkH : Heap → Nat → Option AO
  | [], _ => none
  | (k, a) :: r, t => bif Nat.beq k t then some a else lkH r t
def setH : Heap → Nat → AO → Heap
  | [], _, _ => []
  | (k, x) :: r, t, a => bif Nat.beq k t then (k, a) :: r else (k, x) :: setH r t a

theorem HR.split {w0 : World} {X : List Nat} : ∀ {H : Heap} {L : List (Nat × Obj)} {i : Nat} {a : AO}, HR w0 X H L → lkH H i = some a →
    ∃ M A, EntR w0 X a M ∧ L.Perm (A ++ M) ∧ ∀ a' M', EntR w0 X a' M' → ∃ L', HR w0 X (setH H i a') L' ∧ L'.Perm (A ++ M')
  | [], _, _, _, _, h => by cases h
  | (j, x) :: r, _, i, a, .cons (M := M) (L := L) hx hs, h => by
    simp only [lkH] at h
    cases hb : Nat.beq j i with
    | true =>
      rw [hb] at h
      simp only [cond_true, Option.some.injEq] at h
      subst h
      refine ⟨M, L, hx, List.perm_append_comm, fun a' M' h' => ⟨M' ++ L, ?_, List.perm_append_comm⟩⟩
      simp only [setH, hb, cond_true]
      exact .cons h' hs
    | false =>
      rw [hb] at h
      simp only [cond_false] at h
      obtain ⟨M2, A, h1, h2, h3⟩ := HR.split hs h
      refine ⟨M2, M ++ A, h1, by rw [List.append_assoc]; exact List.Perm.append_left M h2, fun a' M' h' => ?_⟩
      obtain ⟨L', h4, h5⟩ := h3 a' M' h'
      refine ⟨M ++ L', ?_, by rw [List.append_assoc]; exact List.Perm.append_left M h5⟩
      simp only [setH, hb, cond_false]
      exact .cons hx h4

/-- What a known row holds, in every world of the state. -/
theorem HR.row {w0 : World} {X D : List Nat} {H : Heap} {L : List (Nat × Obj)} {i : Nat} {own : Bool} {p : Option Addr} {n T len cap : Nat} {f : Nat → SV} (hL : HR w0 X H L) (h : lkH H i = some (.row own p n T len cap f)) {w : World} (hw : Wd ⟨w0, X, L, D⟩ w) : RowAt w p n len f := by
  obtain ⟨M, A, h1, h2, _⟩ := hL.split h
  cases h1 with
  | own h1 =>
    intro j hj
    rcases h1 with ⟨_, h0, _⟩ | ⟨b, cur, rfl, rfl, hc, hl, _, hf⟩
    · omega
    · obtain ⟨hf, hn⟩ := hf j hj
      refine ⟨rfl, ?_, hn⟩
      rw [← hf]
      have hm : (b, Obj.cells cur.toArray T (0, 0)) ∈ L := h2.mem_iff.2 (List.mem_append_right _ (.head _))
      have hjn : (j + 1) * n ≤ cap * n := Nat.mul_le_mul_right _ (by omega)
      rw [Nat.add_one_mul] at hjn
      have := hw.cs hm (GetAt.of (o := j * n) (k := n) (by omega))
      simpa [po, pb] using this
  | ext h1 hX =>
    intro j hj
    obtain ⟨e, hc, hn⟩ := h1 j hj
    exact ⟨e, hc.kp hw.kp (hX (by omega)), hn⟩
theorem HR.rowp {w0 : World} {X : List Nat} {H : Heap} {L : List (Nat × Obj)} {i : Nat} {own : Bool} {p : Option Addr} {n T len cap : Nat} {f : Nat → SV} (hL : HR w0 X H L) (h : lkH H i = some (.row own p n T len cap f)) (hl : 0 < len) : p = some ⟨pb p, po p, none⟩ := by
  obtain ⟨M, A, h1, h2, _⟩ := hL.split h
  cases h1 with
  | own h1 =>
    rcases h1 with ⟨_, h0, _⟩ | ⟨b, cur, rfl, rfl, hc, hl, _, hf⟩
    · omega
    · rfl
  | ext h1 hX => exact (h1 0 hl).1
theorem HR.cells {w0 : World} {X D : List Nat} {H : Heap} {L : List (Nat × Obj)} {i b T : Nat} {l : List SV} (hL : HR w0 X H L) (h : lkH H i = some (.cells b l T)) {w : World} (hw : Wd ⟨w0, X, L, D⟩ w) : Cs w b 0 (SV.vals l) := by
  obtain ⟨M, A, h1, h2, _⟩ := hL.split h
  cases h1
  have hm : (b, Obj.cells (SV.vals l).toArray T (0, 0)) ∈ L := h2.mem_iff.2 (List.mem_append_right _ (.head _))
  have := hw.cs hm (GetAt.of (o := 0) (k := (SV.vals l).length) (by simp))
  simpa using this
theorem HR.bag {w0 : World} {X : List Nat} {H : Heap} {L Ls : List (Nat × Obj)} {i : Nat} (hL : HR w0 X H L) (h : lkH H i = some (.bag Ls)) {b : Nat} {o : Obj} (hm : (b, o) ∈ Ls) : (b, o) ∈ L := by
  obtain ⟨M, A, h1, h2, _⟩ := hL.split h
  cases h1
  exact h2.mem_iff.2 (List.mem_append_right _ hm)
theorem HR.xcells {w0 : World} {X D : List Nat} {H : Heap} {L : List (Nat × Obj)} {i b base : Nat} {l : List SV} (hL : HR w0 X H L) (h : lkH H i = some (.xcells b base l)) {w : World} (hw : Wd ⟨w0, X, L, D⟩ w) : Cs w b base (SV.vals l) := by
  obtain ⟨M, A, h1, h2, _⟩ := hL.split h
  cases h1 with
  | xcells h1 hX => exact h1.kp hw.kp hX
theorem Cs.sub {w : World} {b o off n : Nat} {l vs : List SV} (h : Cs w b o (SV.vals l)) (hv : (l.drop off).take n = vs) : Cs w b (o + off) (SV.vals vs) := fun j v hj => by
  subst hv
  rw [vals_get, List.getElem?_take] at hj
  split at hj
  · rw [List.getElem?_drop] at hj
    rw [Nat.add_assoc]
    exact h (off + j) v (by rw [vals_get]; exact hj)
  · cases hj

/-! ### States -/
def VSt (N : Nat) (w0 : World) (X : List Nat) (E : SEnv) (H : Heap) (D : List Nat) (φ : Act → World → Prop) : Prop :=
  ∀ L, HR w0 X H L → St N (venv E) D ⟨w0, X, L, D⟩ φ
theorem VSt.mono {N : Nat} {w0 : World} {X : List Nat} {E : SEnv} {H : Heap} {D : List Nat} {φ ψ : Act → World → Prop} (h : VSt N w0 X E H D φ) (hq : ∀ a w, φ a w → ψ a w) : VSt N w0 X E H D ψ := fun L hL => (h L hL).mono hq
end Go.Proofs.Ytikaonfnaobciaa
