/- Operations that yield a value, computed: all but arithmetic. -/
import Derived.Test.YtikaonfnaobciaaVb
namespace Go.Proofs.Ytikaonfnaobciaa
open Go.RowKit
set_option linter.unusedVariables false

/-- A truth value that is told by no literal is split. -/
def forceB (s : SV) (k : SV → Prop) : Prop := match s with
  | .bool b => spl (b = true) k
  | s => k s
theorem forceB_ok {s : SV} {k : SV → Prop} (h : forceB s k) : k s := by
  unfold forceB at h
  split at h
  · rename_i b
    cases b
    · exact h.2 (by simp)
    · exact h.1 rfl
  · exact h
def getC (ag : Bool) (l : List SV) (o n : Nat) (k : SV → Prop) : Prop := match ag with
  | true => match takeS n (dropS o l) with
    | some ws => nrm ws fun ws => k (.agg ws)
    | none => False
  | false => match nthS l o with
    | some s => forceB s k
    | none => False

def vload (T : Tr) (t : Nat) (s : SV) (H : Heap) (k : SV → Prop) : Prop := match T.get t with
  | none => False
  | some ti => match s with
    | .ptr i b base o => match lkH H i with
      | some (.cells b' l _) => b = b' ∧ base = 0 ∧ getC ti.agg l o ti.size k
      | some (.xcells b' base' l) => b = b' ∧ base = base' ∧ getC ti.agg l o ti.size k
      | _ => False
    | .elp i p n j o => match lkH H i with
      | some (.row _ p' n' _ len _ f) => p = p' ∧ n = n' ∧ j < len ∧ getC ti.agg (f j).cs o ti.size k
      | _ => False
    | _ => False

def fldS (T : Tr) (t f : Nat) : Option (Nat × Nat × Bool) := match T.get t with | some i => nthS i.flds f | none => none

/-- The slice's row, and where in it an index leads. -/
def vindexAddr (T : Tr) (t : Nat) (s u : SV) (H : Heap) (k : SV → Prop) : Prop := match u with
  | .int _ m => match T.get t with
    | none => False
    | some ti => match ti.u with
      | .slice e => match T.get e with
        | none => False
        | some te => match s with
          | .sl i p n st len cap => match Nat.beq te.size n, lkH H i with
            | true, some (.row _ p' _ _ len' _ _) => (0 ≤ m ∧ m < (len : Int)) ∧ p = p' ∧ 0 < len' ∧ IxV m fun j => addK st j fun j => k (.elp i p n j 0)
            | _, _ => False
          | .slc i b o n len cap => match Nat.beq te.size n with
            | true => (0 ≤ m ∧ m < (len : Int)) ∧ splitIx m (fun c => k (.ptr i b 0 (o + c * n))) len 0
            | _ => False
          | _ => False
      | .array len e => match T.get e with
        | none => False
        | some te => match s with
          | .ptr i b base o => (0 ≤ m ∧ m < (len : Int)) ∧ splitIx m (fun c => k (.ptr i b base (o + c * te.size))) len 0
          | .elp i p n j o => (0 ≤ m ∧ m < (len : Int)) ∧ splitIx m (fun c => k (.elp i p n j (o + c * te.size))) len 0
          | _ => False
      | _ => False
  | _ => False

def vindex (T : Tr) (t : Nat) (s u : SV) (k : SV → Prop) : Prop := match s, u with
  | .agg l, .int _ m => match T.get t with
    | none => False
    | some ti => match ti.u with
      | .array len e => match T.get e with
        | none => False
        | some te => (0 ≤ m ∧ m < (len : Int)) ∧ splitIx m (fun c => getC te.agg l (c * te.size) te.size k) len 0
      | _ => False
  | .v (.string x), .int _ m => match T.get t with
    | none => False
    | some ti => match ti.u with
      | .str => (0 ≤ m ∧ m < (x.size : Int)) ∧ k (.int .u8 ((x.data.toList.getD m.toNat 0).toNat : Int))
      | _ => False
  | _, _ => False

def fillS (pl : List (Nat × Nat)) (E : SEnv) : List (Nat × Operand) → List SV → (List SV → Prop) → Prop
  | [], z, k => k z
  | x :: r, z, k => get1 E x.2 fun s => match nthS pl x.1 with
    | none => False
    | some y => match s.fitB, Nat.beq s.cs.length y.2, putS z y.1 s.cs with
      | true, true, some z' => nrm z' fun z' => fillS pl E r z' k
      | _, _, _ => False

def vbuild (T : Tr) (t : Nat) (ps : List (Nat × Operand)) (E : SEnv) (k : SV → Prop) : Prop := match T.get t with
  | none => False
  | some ti => match ti.plok, ti.zero with
    | true, some (.agg z) => match ti.u with
      | .struct => fillS ti.pl E ps z fun l => k (.agg l)
      | .array n e => match T.get e with
        | some te => fillS ti.pl E ps z fun l => k (.agg l)
        | none => False
      | _ => False
    | _, _ => False

def vlen (s : SV) (k : SV → Prop) : Prop := match s with
  | .sl _ _ _ _ len _ => k (.int .i64 (len : Int))
  | .slc _ _ _ _ len _ => k (.int .i64 (len : Int))
  | .v (.slice _ len _) => k (.int .i64 (len : Int))
  | _ => False
def isStrT (T : Tr) (t : Nat) : Bool := match T.get t with | some i => (match i.u with | .str => true | _ => false) | none => false

def vcall1 (T : Tr) (b : Builtin) (ats : List Nat) (l : List SV) (k : SV → Prop) : Prop := match b, ats, l with
  | .len, [t], [.v (.string x)] => match isStrT T t with | true => k (.int .i64 (x.size : Int)) | false => False
  | .len, [t], [s] => match isSliceT T t with | true => vlen s k | false => False
  | .min, _, [.int q m, .int q' n] => match qeq q q' with | true => k (.int q (min m n)) | false => False
  | .max, _, [.int q m, .int q' n] => match qeq q q' with | true => k (.int q (max m n)) | false => False
  | _, _, _ => False

def intT (T : Tr) (t : Nat) : Option IntKind := match T.get t with | some i => (match i.u with | .int q => some q | _ => none) | none => none

def vconv (T : Tr) (src dst : Nat) (s : SV) (k : SV → Prop) : Prop := match s with
  | .int _ n => match intT T src, intT T dst with
    | some _, some .i64 => wf64 n ∧ k (.int .i64 n)
    | some _, some q => k (.int q (q.wrap n))
    | _, _ => False
  | _ => False

def arrT (T : Tr) (t : Nat) : Option (Nat × Nat) := match T.get t with
  | some i => (match i.u with
    | .array n e => match T.get e with | some te => some (n, te.size) | none => none
    | _ => none)
  | none => none

/-- A piece of a row. -/
def vslice (T : Tr) (t : Nat) (s : SV) (H : Heap) (lo hi mx : Option SV) (k : SV → Prop) : Prop := match s with
  | .ptr i b base o => match arrT T t, lo, hi, mx with
    | some x, none, none, none => k (.slc i b (base + o) x.2 x.1 x.1)
    | _, _, _, _ => False
  | .sl i p n st len cap => match T.get t with
    | some ti => match ti.u with
      | .slice e => match T.get e, lkH H i with
        | some te, some (.row _ p' _ _ len' _ _) => match Nat.beq te.size n, lo, hi, mx with
          | true, none, none, none => k s
          | true, none, some (.int _ h), none => (0 ≤ h ∧ h ≤ (cap : Int)) ∧ IxV h fun h => k (.sl i p n st h cap)
          | true, none, some (.int _ h), some (.int _ c) => (0 ≤ h ∧ h ≤ c ∧ c ≤ (cap : Int)) ∧ IxV h fun h => IxV c fun c => k (.sl i p n st h c)
          | true, some (.int _ l), some (.int _ h), none => (0 ≤ l ∧ l ≤ h ∧ h ≤ (cap : Int)) ∧ l < (cap : Int) ∧ p = p' ∧ 0 < len' ∧ IxV l fun l => IxV h fun h => addO st l fun s => k (.sl i p n s (h - l) (cap - l))
          | true, some (.int _ l), none, none => (0 ≤ l ∧ l ≤ (len : Int)) ∧ l < (cap : Int) ∧ p = p' ∧ 0 < len' ∧ IxV l fun l => addO st l fun s => k (.sl i p n s (len - l) (cap - l))
          | _, _, _, _ => False
        | _, _ => False
      | _ => False
    | none => False
  | .v (.string x) => match isStrT T t, lo, hi, mx with
    | true, some (.int _ l), some (.int _ h), none => (0 ≤ l ∧ l ≤ h ∧ h ≤ (x.size : Int)) ∧ k (.v (.string (x.extract l.toNat h.toNat)))
    | true, some (.int _ l), none, none => (0 ≤ l ∧ l ≤ (x.size : Int)) ∧ k (.v (.string (x.extract l.toNat x.size)))
    | true, none, some (.int _ h), none => (0 ≤ h ∧ h ≤ (x.size : Int)) ∧ k (.v (.string (x.extract 0 h.toNat)))
    | _, _, _, _ => False
  | _ => False
def getO (E : SEnv) (x : Option Operand) (k : Option SV → Prop) : Prop := match x with
  | none => k none
  | some x => get1 E x fun s => k (some s)

def vpure (P : Program) (T : Tr) (op : Op) (E : SEnv) (H : Heap) (k : SV → Prop) : Prop := match op with
  | .move x => get1 E x k
  | .assign x => get1 E x k
  | .pick c a b => get1 E c fun s => match s with
    | .bool true => get1 E a k
    | .bool false => get1 E b k
    | _ => False
  | .load t x => get1 E x fun s => vload T t s H k
  | .nilCheck x => get1 E x fun s => match s with
    | .ptr .. => k s
    | .elp .. => k s
    | .fn (.func f) fs cs => k s
    | _ => False
  | .binOp op t x y _ => get1 E x fun s => get1 E y fun u => binK P T t op s u k
  | .unOp op _ x => get1 E x fun s => match op, s with
    | .not, .bool true => k (.bool false)
    | .not, .bool false => k (.bool true)
    | .neg, .int .i64 n => wf64 (-n) ∧ k (.int .i64 (-n))
    | _, _ => False
  | .convert a b x => get1 E x fun s => vconv T a b s k
  | .fieldAddr t x f => match fldS T t f with
    | none => False
    | some y => get1 E x fun s => match s with
      | .ptr i b base o => k (.ptr i b base (o + y.1))
      | .elp i p n j o => k (.elp i p n j (o + y.1))
      | _ => False
  | .field t x f => match fldS T t f with
    | none => False
    | some y => get1 E x fun s => match s with
      | .agg l => getC y.2.2 l y.1 y.2.1 k
      | _ => False
  | .indexAddr t x i => get1 E x fun s => get1 E i fun u => vindexAddr T t s u H k
  | .index t x i => get1 E x fun s => get1 E i fun u => vindex T t s u k
  | .extract x i => get1 E x fun s => match s with
    | .tup l => match nthS l i with
      | some u => k u
      | none => False
    | _ => False
  | .build t ps => vbuild T t ps.toList E k
  | .makeFunc fn fs cs => getL E fs.toList fun a => getL E cs.toList fun b => k (.fn fn a b)
  | .slice t x lo hi mx => get1 E x fun s => getO E lo fun a => getO E hi fun b => getO E mx fun c => vslice T t s H a b c k
  | .call c => match c.callee with
    | .builtin b => getL E c.args.toList fun l => vcall1 T b c.argTypes.toList l k
    | _ => False
  | _ => False

section
variable {P : Program} {T : Tr} {N : Nat} {E : SEnv} {D : List Nat} {H : Heap} {w0 : World} {X : List Nat} {L : List (Nat × Obj)} {S : Sp} {k : SV → Prop}
variable {ty : TypeId} {pos : String} {aft : Array Edge} {dst : Option Tmp} {g : Option (Nat × Bool)}

theorem advp_some {p : Option Addr} (hp : p = some ⟨pb p, po p, none⟩) (n : Nat) (st : Option Nat) : advp p n st = some ⟨pb p, po p + stN st * n, none⟩ := by
  cases st with
  | none => simpa [advp, stN] using hp
  | some st => rfl

theorem getC_load {ag : Bool} {l : List SV} {o n t : Nat} (h : getC ag l o n k) (hag : AG P t ag) (hsz : SZ P t n) :
    ∃ u, k u ∧ ∀ w b base, Cs w b base (SV.vals l) → (loadVar t ⟨b, base + o, none⟩).run P w = .ok u.val w := by
  cases ag with
  | true =>
    simp only [getC] at h
    split at h
    · rename_i ws hws
      rw [nrm_iff] at h
      obtain ⟨h1, h2⟩ := takeS_eq hws
      rw [dropS_eq] at h2
      refine ⟨_, h, fun w b base hc => ?_⟩
      simpa [SV.val] using run_load_agg hag hsz.h (by rw [vals_length]; exact h1) (hc.sub h2)
    · exact h.elim
  | false =>
    simp only [getC] at h
    split at h
    · rename_i s hs
      rw [nthS_eq] at hs
      have h := forceB_ok h
      refine ⟨_, h, fun w b base hc => run_load_one hag (hc o s.val (by rw [vals_get, hs]; rfl))⟩
    · exact h.elim

theorem vload_ok {t : Nat} {s : SV} {x : Operand} (hT : T.All P) (h : vload T t s H k) (hx : ev (venv E) x = some s.val) :
    ∃ v, k v ∧ ∀ L, HR w0 X H L → Y P N (venv E) D ⟨w0, X, L, D⟩ ⟨dst, .load t x, ty, pos, aft, g⟩ v.val := by
  unfold vload at h
  split at h
  · exact h.elim
  · rename_i ti hti
    have ht := Tr.get_ok hT hti
    split at h
    · rename_i i b base o
      split at h
      · rename_i b' l T' hl
        obtain ⟨rfl, rfl, h⟩ := h
        obtain ⟨u, hu, hr⟩ := getC_load h ht.ag ht.sz
        refine ⟨u, hu, fun L hL a w ha hw => ?_⟩
        simp only [SV.val] at hx
        have := hr w b 0 (hL.cells hl hw)
        simp [execOp, ha.ev hx, Instr.loadAt, Instr.sureAddr] at this ⊢
        simp [this]
      · rename_i b' base' l hl
        obtain ⟨rfl, rfl, h⟩ := h
        obtain ⟨u, hu, hr⟩ := getC_load h ht.ag ht.sz
        refine ⟨u, hu, fun L hL a w ha hw => ?_⟩
        simp only [SV.val] at hx
        have := hr w b base (hL.xcells hl hw)
        simp [execOp, ha.ev hx, Instr.loadAt, Instr.sureAddr, this]
      · exact h.elim
    · rename_i i p n j o
      split at h
      · rename_i own p' n' T' len cap f hl
        obtain ⟨rfl, rfl, hj, h⟩ := h
        obtain ⟨u, hu, hr⟩ := getC_load h ht.ag ht.sz
        refine ⟨u, hu, fun L hL a w ha hw => ?_⟩
        simp only [SV.val] at hx
        have := hr w _ _ (hL.row hl hw j hj).2.1
        simp [execOp, ha.ev hx, Instr.loadAt, Instr.sureAddr, this]
      · exact h.elim
    · exact h.elim

theorem fldS_ok {t f : Nat} {y : Nat × Nat × Bool} (hT : T.All P) (h : fldS T t f = some y) : FD P t f y.1 y.2.1 y.2.2 := by
  unfold fldS at h
  split at h
  · rename_i i hi; exact (Tr.get_ok hT hi).fd f y h
  · cases h

theorem isStrT_ok {t : Nat} (hT : T.All P) (h : isStrT T t = true) : UL P t .string := by
  unfold isStrT at h
  split at h
  · rename_i i hi
    have := (Tr.get_ok hT hi).u
    split at h
    · rename_i hu; rw [hu] at this; exact this
    · cases h
  · cases h
theorem intT_ok {t : Nat} {q : IntKind} (hT : T.All P) (h : intT T t = some q) : UL P t (.int q) := by
  unfold intT at h
  split at h
  · rename_i i hi
    have := (Tr.get_ok hT hi).u
    split at h
    · rename_i hu; rw [hu] at this; simp at h; subst h; exact this
    · cases h
  · cases h

theorem vindexAddr_ok {t : Nat} {s u : SV} {x y : Operand} (hT : T.All P) (h : vindexAddr T t s u H k) (hx : ev (venv E) x = some s.val) (hy : ev (venv E) y = some u.val) :
    ∃ v, k v ∧ ∀ L, HR w0 X H L → Y P N (venv E) D ⟨w0, X, L, D⟩ ⟨dst, .indexAddr t x y, ty, pos, aft, g⟩ v.val := by
  unfold vindexAddr at h
  split at h
  · rename_i q m
    simp only [SV.val] at hy
    split at h
    · exact h.elim
    · rename_i ti hti
      have ht := (Tr.get_ok hT hti).u
      split at h
      · rename_i e hu
        rw [hu] at ht
        split at h
        · exact h.elim
        · rename_i te hte
          have hsz := (Tr.get_ok hT hte).sz
          split at h
          · rename_i i p n st len cap
            split at h
            · rename_i own p' n' T' len' cap' f hb hl
              obtain ⟨hm, rfl, h0, h⟩ := h
              have hb : te.size = n := Nat.eq_of_beq_eq_true hb
              rw [hb] at hsz
              rw [IxV, addK_iff] at h
              refine ⟨_, h, fun L hL => ?_⟩
              have hp := hL.rowp hl h0
              have hadv : advp p n st = some ⟨pb p, po p + stN st * n, none⟩ := advp_some hp n st
              simp only [SV.val, hadv] at hx
              have := Y.indexSlice (P := P) (N := N) (D := D) (S := ⟨w0, X, L, D⟩) (dst := dst) (ty := ty) (pos := pos) (aft := aft) (g := g) (u := ht) (z := hsz) hx hy hm
              have e : po p + addn st m.toNat * n + 0 = po p + stN st * n + m.toNat * n := by rw [addn_eq, Nat.add_mul]; omega
              simp only [SV.val, e]
              exact this
            · exact h.elim
          · rename_i i b o n len cap
            split at h
            · rename_i hb
              obtain ⟨hm, h⟩ := h
              have hb : te.size = n := Nat.eq_of_beq_eq_true hb
              rw [hb] at hsz
              obtain ⟨j, rfl, hj, h⟩ := splitIx_ok h (by omega) (by omega)
              refine ⟨_, h, fun L hL => ?_⟩
              have := Y.indexSlice (P := P) (N := N) (D := D) (S := ⟨w0, X, L, D⟩) (dst := dst) (ty := ty) (pos := pos) (aft := aft) (g := g) (u := ht) (z := hsz) hx hy hm
              simpa [SV.val] using this
            · exact h.elim
          · exact h.elim
      · rename_i len e hu
        rw [hu] at ht
        split at h
        · exact h.elim
        · rename_i te hte
          have hsz := (Tr.get_ok hT hte).sz
          split at h
          · rename_i i b base o
            obtain ⟨hm, h⟩ := h
            obtain ⟨j, rfl, hj, h⟩ := splitIx_ok h (by omega) (by omega)
            refine ⟨_, h, fun L hL => ?_⟩
            have := Y.indexArray (P := P) (N := N) (D := D) (S := ⟨w0, X, L, D⟩) (dst := dst) (ty := ty) (pos := pos) (aft := aft) (g := g) (u := ht) (z := hsz) hx hy hm
            simpa [SV.val, Nat.add_assoc] using this
          · rename_i i p n j' o
            obtain ⟨hm, h⟩ := h
            obtain ⟨j, rfl, hj, h⟩ := splitIx_ok h (by omega) (by omega)
            refine ⟨_, h, fun L hL => ?_⟩
            have := Y.indexArray (P := P) (N := N) (D := D) (S := ⟨w0, X, L, D⟩) (dst := dst) (ty := ty) (pos := pos) (aft := aft) (g := g) (u := ht) (z := hsz) hx hy hm
            simpa [SV.val, Nat.add_assoc] using this
          · exact h.elim
      · exact h.elim
  · exact h.elim

theorem getC_part {ag : Bool} {l : List SV} {o n t : Nat} (h : getC ag l o n k) (hag : AG P t ag) (hsz : SZ P t n) :
    ∃ u, k u ∧ ∀ w, (part t (SV.vals l).toArray o).run P w = .ok u.val w := by
  cases ag with
  | true =>
    simp only [getC] at h
    split at h
    · rename_i ws hws
      rw [nrm_iff] at h
      obtain ⟨h1, h2⟩ := takeS_eq hws
      rw [dropS_eq] at h2
      refine ⟨_, h, fun w => ?_⟩
      simp only [part, Sem.run_bind, run_isAgg hag, Result.andThen_ok, if_true, run_SZ hsz.h, Sem.run_pure, SV.val]
      rw [← h2]
      simp [vals_map, List.map_take, List.map_drop, Nat.add_sub_cancel_left]
    · exact h.elim
  | false =>
    simp only [getC] at h
    split at h
    · rename_i s hs
      rw [nthS_eq] at hs
      have h := forceB_ok h
      refine ⟨_, h, fun w => ?_⟩
      have : (SV.vals l)[o]? = some s.val := by rw [vals_get, hs]; rfl
      simp [part, Sem.run_bind, run_isAgg hag, this]
    · exact h.elim

theorem vindex_ok_all {t : Nat} {s u : SV} {x y : Operand} (hT : T.All P) (h : vindex T t s u k) (hx : ev (venv E) x = some s.val) (hy : ev (venv E) y = some u.val) :
    ∃ v, k v ∧ ∀ S : Sp, Y P N (venv E) D S ⟨dst, .index t x y, ty, pos, aft, g⟩ v.val := by
  unfold vindex at h
  split at h
  · rename_i l q m
    simp only [SV.val] at hx hy
    split at h
    · exact h.elim
    · rename_i ti hti
      have ht := (Tr.get_ok hT hti).u
      split at h
      · rename_i len e hu
        rw [hu] at ht
        split at h
        · exact h.elim
        · rename_i te hte
          have hk := Tr.get_ok hT hte
          obtain ⟨hm, h⟩ := h
          obtain ⟨j, rfl, hj, h⟩ := splitIx_ok h (by omega) (by omega)
          obtain ⟨v, hv, hr⟩ := getC_part h hk.ag hk.sz
          refine ⟨v, hv, fun S a w ha _ => ?_⟩
          simp only [execOp, ha.ev hx, ha.ev hy, Instr.index, asIntOf, Sem.run_bind, Sem.run_pure, run_UL ht.h, Result.andThen_ok]
          rw [if_pos hm]
          simp [run_SZ hk.sz.h, hr]
      · exact h.elim
  · rename_i x q m
    simp only [SV.val] at hx hy
    split at h
    · exact h.elim
    · rename_i ti hti
      have ht := (Tr.get_ok hT hti).u
      split at h
      · rename_i hu
        rw [hu] at ht
        obtain ⟨hm, h⟩ := h
        refine ⟨_, h, fun S a w ha _ => ?_⟩
        have hlt : m.toNat < x.size := by omega
        have hg : x[m.toNat]? = some (x.data.toList.getD m.toNat 0) := by
          have h1 : m.toNat < x.data.size := hlt
          have h2 : x.data.toList.getD m.toNat 0 = x.data[m.toNat] := by rw [List.getD_eq_getElem?_getD, Array.getElem?_toList, Array.getElem?_eq_getElem h1]; rfl
          rw [h2, getElem?_pos x m.toNat hlt]; rfl
        simp only [execOp, ha.ev hx, ha.ev hy, Instr.index, asIntOf, Sem.run_bind, Sem.run_pure, run_UL ht.h, Result.andThen_ok]
        rw [if_pos hm.1, hg]
        generalize x.data.toList.getD m.toNat 0 = c
        simp [SV.val]
      · exact h.elim
  · exact h.elim

theorem Y.field_g_all {t f : Nat} {x : Operand} {l : List SV} {y : Nat × Nat × Bool} (hT : T.All P) (hf : fldS T t f = some y) (h : getC y.2.2 l y.1 y.2.1 k) (hx : ev (venv E) x = some (SV.agg l).val) :
    ∃ v, k v ∧ ∀ S : Sp, Y P N (venv E) D S ⟨dst, .field t x f, ty, pos, aft, g⟩ v.val := by
  have hF := fldS_ok hT hf
  obtain ⟨off, n, ag⟩ := y
  simp only [SV.val] at hx
  cases ag with
  | true =>
    simp only [getC] at h
    split at h
    · rename_i ws hws
      rw [nrm_iff] at h
      obtain ⟨h1, h2⟩ := takeS_eq hws
      rw [dropS_eq] at h2
      exact ⟨_, h, fun S => Y.field_agg hx (u := hF) (by simp [vals_map, ← List.map_drop, ← List.map_take, h2])⟩
    · exact h.elim
  | false =>
    simp only [getC] at h
    split at h
    · rename_i s hs
      rw [nthS_eq] at hs
      have h := forceB_ok h
      exact ⟨_, h, fun S => Y.field hx (u := hF) (by rw [vals_get, hs]; rfl)⟩
    · exact h.elim

theorem fillS_ok {pl : List (Nat × Nat)} : ∀ {ps : List (Nat × Operand)} {z : List SV} {k : List SV → Prop}, fillS pl E ps z k →
    ∃ l pv, k l ∧ Parts (venv E) ps pv ∧ Fills pl pv (SV.vals z) (SV.vals l)
  | [], z, k, h => ⟨z, [], h, .nil, .nil⟩
  | x :: r, z, k, h => by
    obtain ⟨s, hs, h⟩ := get1_ok h
    split at h
    · exact h.elim
    · rename_i y hy
      split at h
      · rename_i z' hf hl hp
        rw [nrm_iff] at h
        obtain ⟨l, pv, hk, h1, h2⟩ := fillS_ok h
        rw [nthS_eq] at hy
        refine ⟨l, (x.1, s.val) :: pv, hk, .cons hs h1, .cons hy (SV.fit_cells (SV.fitB_ok hf)) (by rw [vals_length]; exact Nat.eq_of_beq_eq_true hl) (putS_set hp).1 h2⟩
      · exact h.elim

theorem vbuild_ok_all {t : Nat} {ps : Array (Nat × Operand)} (hT : T.All P) (h : vbuild T t ps.toList E k) :
    ∃ v, k v ∧ ∀ S : Sp, Y P N (venv E) D S ⟨dst, .build t ps, ty, pos, aft, g⟩ v.val := by
  unfold vbuild at h
  split at h
  · exact h.elim
  · rename_i ti hti
    have ht := Tr.get_ok hT hti
    split at h
    · rename_i z hok hz
      have hpl := ht.pl hok
      have hzv := ht.zv _ hz
      have htu := ht.u
      simp only [SV.val] at hzv
      split at h
      · rename_i hu
        rw [hu] at htu
        obtain ⟨fs, hfs⟩ := htu
        obtain ⟨l, pv, hk, h1, h2⟩ := fillS_ok h
        refine ⟨_, hk, fun S => ?_⟩
        have := Y.build (P := P) (N := N) (D := D) (S := S) (dst := dst) (ty := ty) (pos := pos) (aft := aft) (g := g) (u := hfs) (zv := hzv) (hp := hpl) h1 h2
        simpa [SV.val] using this
      · rename_i n e hu
        rw [hu] at htu
        split at h
        · rename_i te hte
          have hs := (Tr.get_ok hT hte).sz
          obtain ⟨l, pv, hk, h1, h2⟩ := fillS_ok h
          refine ⟨_, hk, fun S => ?_⟩
          have := Y.build_arr (P := P) (N := N) (D := D) (S := S) (dst := dst) (ty := ty) (pos := pos) (aft := aft) (g := g) (u := htu) (zv := hzv) (hs := hs) (hp := hpl) h1 h2
          simpa [SV.val] using this
        · exact h.elim
      · exact h.elim
    · exact h.elim

theorem vcall1_ok_all {b : Builtin} {ats : Array Nat} {l : List SV} {args : List Operand} (hT : T.All P) (h : vcall1 T b ats.toList l k) (ha : Args (venv E) args (SV.vals l)) :
    ∃ v, k v ∧ ∀ S : Sp, Y P N (venv E) D S ⟨dst, .call { callee := .builtin b, args := args.toArray, argTypes := ats }, ty, pos, aft, g⟩ v.val := by
  obtain ⟨ats⟩ := ats
  unfold vcall1 at h
  split at h
  · rename_i hats
    simp only at hats; subst hats
    split at h
    · rename_i t x hs
      refine ⟨_, h, fun S a w hf _ => ?_⟩
      have hm := ha.map hf
      simp only [execOp, resolve, List.map_toArray, hm]
      simp [SV.vals, SV.val, invoke, builtin, Builtin.len_, run_UL (isStrT_ok hT hs).h, goInt]
    · exact h.elim
  · rename_i hats
    simp only at hats; subst hats
    split at h
    · rename_i t s _ hs
      obtain ⟨e, he⟩ := isSliceT_ok hT hs
      unfold vlen at h
      split at h
      all_goals first
        | exact h.elim
        | (refine ⟨_, h, fun S a w hf _ => ?_⟩
           have hm := ha.map hf
           simp only [execOp, resolve, List.map_toArray, hm]
           simp [SV.vals, SV.val, invoke, builtin, Builtin.len_, run_UL he.h, goInt])
    · exact h.elim
  · split at h
    · rename_i q m q' n _ hq
      obtain rfl := qeq_ok hq
      refine ⟨_, h, fun S a w hf _ => ?_⟩
      have hm := ha.map hf
      simp only [execOp, resolve, List.map_toArray, hm]
      simp [SV.vals, SV.val, invoke, builtin, Builtin.min_, Builtin.min2]
      by_cases e : n < m <;> simp [e] <;> omega
    · exact h.elim
  · split at h
    · rename_i q m q' n _ hq
      obtain rfl := qeq_ok hq
      refine ⟨_, h, fun S a w hf _ => ?_⟩
      have hm := ha.map hf
      simp only [execOp, resolve, List.map_toArray, hm]
      simp [SV.vals, SV.val, invoke, builtin, Builtin.max_, Builtin.max2]
      by_cases e : m < n <;> simp [e] <;> omega
    · exact h.elim
  · exact h.elim

theorem vconv_ok_all {t t' : Nat} {s : SV} {x : Operand} (hT : T.All P) (h : vconv T t t' s k) (hx : ev (venv E) x = some s.val) :
    ∃ v, k v ∧ ∀ S : Sp, Y P N (venv E) D S ⟨dst, .convert t t' x, ty, pos, aft, g⟩ v.val := by
  unfold vconv at h
  split at h
  · rename_i q n
    simp only [SV.val] at hx
    split at h
    · rename_i q1 h1 h2
      refine ⟨_, h.2, fun S a w ha _ => ?_⟩
      simp [execOp, ha.ev hx, convert, run_UL (intT_ok hT h1).h, run_UL (intT_ok hT h2).h, Conv.intToInt, SV.val, wrapI h.1]
    · rename_i q1 q2 _ h1 h2
      refine ⟨_, h, fun S a w ha _ => ?_⟩
      simp [execOp, ha.ev hx, convert, run_UL (intT_ok hT h1).h, run_UL (intT_ok hT h2).h, Conv.intToInt, SV.val]
    · exact h.elim
  · exact h.elim

theorem arrT_ok {t : Nat} {x : Nat × Nat} (hT : T.All P) (h : arrT T t = some x) : ∃ e, UL P t (.array x.1 e) ∧ SZ P e x.2 := by
  unfold arrT at h
  split at h
  · rename_i i hi
    have hu := (Tr.get_ok hT hi).u
    split at h
    · rename_i n e he
      rw [he] at hu
      split at h
      · rename_i te hte
        simp at h; subst h
        exact ⟨e, hu, (Tr.get_ok hT hte).sz⟩
      · cases h
    · cases h
  · cases h

theorem run_bound {q : IntKind} {i : Int} {y : Nat} {code : BoundsCode} (h : 0 ≤ i ∧ i ≤ (y : Int)) (w : World) : (Instr.sliceBound (.int q i) y code).run P w = .ok i.toNat w := by simp [Instr.sliceBound, asIntOf, h]
theorem add0 (c : Prop) [Decidable c] (n : Nat) (a : Option Addr) : (if c then a else Option.map (fun x => x.add (0 * n)) a) = a := by
  cases a with
  | none => simp
  | some a => simp [Addr.add]
theorem run_sliceTo {t e n len cap : Nat} {a : Option Addr} {q : IntKind} {h : Int} (hu : UL P t (.slice e)) (hz : SZ P e n) (hh : 0 ≤ h ∧ h ≤ (cap : Int)) (w : World) :
    (Instr.sliceAt t (.slice a len cap) none (some (.int q h)) none).run P w = .ok (.slice a h.toNat cap) w := by
  simp only [Instr.sliceAt, Instr.slice, run_UL hu.h, Instr.sliceBounds, Sem.run_bind, Sem.run_pure, Result.andThen_ok, run_bound hh, run_SZ hz.h]
  rw [add0]; simp
theorem run_sliceTo3 {t e n len cap : Nat} {a : Option Addr} {q q' : IntKind} {h c : Int} (hu : UL P t (.slice e)) (hz : SZ P e n) (hh : 0 ≤ h ∧ h ≤ c ∧ c ≤ (cap : Int)) (w : World) :
    (Instr.sliceAt t (.slice a len cap) none (some (.int q h)) (some (.int q' c))).run P w = .ok (.slice a h.toNat c.toNat) w := by
  have h1 : 0 ≤ c ∧ c ≤ (cap : Int) := by omega
  have h2 : 0 ≤ h ∧ h ≤ ((c.toNat : Nat) : Int) := by omega
  simp only [Instr.sliceAt, Instr.slice, run_UL hu.h, Instr.sliceBounds, Sem.run_bind, Sem.run_pure, Result.andThen_ok, run_bound h1, run_bound h2, run_SZ hz.h]
  rw [add0]; simp
theorem run_sliceFromTo {t e n len cap b o : Nat} {q q' : IntKind} {l h : Int} (hu : UL P t (.slice e)) (hz : SZ P e n) (hh : 0 ≤ l ∧ l ≤ h ∧ h ≤ (cap : Int)) (hl : l < (cap : Int)) (w : World) :
    (Instr.sliceAt t (.slice (some ⟨b, o, none⟩) len cap) (some (.int q l)) (some (.int q' h)) none).run P w = .ok (.slice (some ⟨b, o + l.toNat * n, none⟩) (h.toNat - l.toNat) (cap - l.toNat)) w := by
  have h1 : 0 ≤ h ∧ h ≤ (cap : Int) := by omega
  have h2 : 0 ≤ l ∧ l ≤ ((h.toNat : Nat) : Int) := by omega
  have h3 : ¬ cap = l.toNat := by omega
  simp only [Instr.sliceAt, Instr.slice, run_UL hu.h, Instr.sliceBounds, Sem.run_bind, Sem.run_pure, Result.andThen_ok, run_bound h1, run_bound h2, run_SZ hz.h, if_neg h3, Option.map_some, Addr.add_none]
theorem run_sliceFrom {t e n len cap b o : Nat} {q : IntKind} {l : Int} (hu : UL P t (.slice e)) (hz : SZ P e n) (hh : 0 ≤ l ∧ l ≤ (len : Int)) (hl : l < (cap : Int)) (w : World) :
    (Instr.sliceAt t (.slice (some ⟨b, o, none⟩) len cap) (some (.int q l)) none none).run P w = .ok (.slice (some ⟨b, o + l.toNat * n, none⟩) (len - l.toNat) (cap - l.toNat)) w := by
  have h3 : ¬ cap = l.toNat := by omega
  simp only [Instr.sliceAt, Instr.slice, run_UL hu.h, Instr.sliceBounds, Sem.run_bind, Sem.run_pure, Result.andThen_ok, run_bound hh, run_SZ hz.h, if_neg h3, Option.map_some, Addr.add_none]
theorem run_sliceAll {t e n len cap : Nat} {a : Option Addr} (hu : UL P t (.slice e)) (hz : SZ P e n) (w : World) :
    (Instr.sliceAt t (.slice a len cap) none none none).run P w = .ok (.slice a len cap) w := by
  simp only [Instr.sliceAt, Instr.slice, run_UL hu.h, Instr.sliceBounds, Sem.run_bind, Sem.run_pure, Result.andThen_ok, run_SZ hz.h]
  rw [add0]; simp

def OV (E : Env) (x : Option Operand) (s : Option SV) : Prop := match x, s with
  | none, none => True
  | some x, some s => ev E x = some s.val
  | _, _ => False
theorem getO_ok {x : Option Operand} {k : Option SV → Prop} (h : getO E x k) : ∃ s, OV (venv E) x s ∧ k s := by
  cases x with
  | none => exact ⟨none, trivial, h⟩
  | some x =>
    obtain ⟨s, hs, h⟩ := get1_ok h
    exact ⟨some s, hs, h⟩
theorem OV.map {a : Act} {Ev : Env} {x : Option Operand} {s : Option SV} (ha : Fr N Ev D a) (h : OV Ev x s) : x.map a.eval = s.map SV.val := by
  cases x <;> cases s <;> first | rfl | exact h.elim | (simp only [OV] at h; simp [ha.ev h])

theorem vslice_ok {t : Nat} {s : SV} {lo hi mx : Option SV} {x : Operand} {xl xh xm : Option Operand} (hT : T.All P) (h : vslice T t s H lo hi mx k) (hx : ev (venv E) x = some s.val) (h1 : OV (venv E) xl lo) (h2 : OV (venv E) xh hi) (h3 : OV (venv E) xm mx) :
    ∃ v, k v ∧ ∀ L, HR w0 X H L → Y P N (venv E) D ⟨w0, X, L, D⟩ ⟨dst, .slice t x xl xh xm, ty, pos, aft, g⟩ v.val := by
  have key : ∀ v : SV, k v → (∀ L, HR w0 X H L → ∀ w, (Instr.sliceAt t s.val (lo.map SV.val) (hi.map SV.val) (mx.map SV.val)).run P w = .ok v.val w) → ∃ v, k v ∧ ∀ L, HR w0 X H L → Y P N (venv E) D ⟨w0, X, L, D⟩ ⟨dst, .slice t x xl xh xm, ty, pos, aft, g⟩ v.val := fun v hv hr =>
    ⟨v, hv, fun L hL a w ha _ => by simp [execOp, ha.ev hx, h1.map ha, h2.map ha, h3.map ha, hr L hL]⟩
  unfold vslice at h
  split at h
  · rename_i i b base o
    split at h
    · rename_i y hy
      obtain ⟨e, hu, hz⟩ := arrT_ok hT hy
      refine key _ h fun L hL w => ?_
      simp [Instr.sliceAt, run_UL hu.h, SV.val, Instr.sureAddr, Instr.sliceBounds, run_SZ hz.h, Addr.add]
    · exact h.elim
  · rename_i i p n st len cap
    split at h
    · rename_i ti hti
      have htu := (Tr.get_ok hT hti).u
      split at h
      · rename_i e hu
        rw [hu] at htu
        split at h
        · rename_i te own p' n' T' len' cap' f hte hl
          have hz := (Tr.get_ok hT hte).sz
          split at h
          · rename_i hb
            exact key _ h fun L hL w => by simpa [SV.val] using run_sliceAll htu hz w
          · rename_i q m hb
            exact key _ h.2 fun L hL w => by simpa [SV.val] using run_sliceTo htu hz h.1 w
          · rename_i q m q' c hb
            exact key _ h.2 fun L hL w => by simpa [SV.val] using run_sliceTo3 htu hz h.1 w
          · rename_i q l q' m hb
            obtain ⟨hm, hlt, rfl, h0, h⟩ := h
            simp only [IxV, addO_iff] at h
            have hb := Nat.eq_of_beq_eq_true hb
            refine key _ h fun L hL w => ?_
            have hp := hL.rowp hl h0
            have := run_sliceFromTo (P := P) (b := pb p) (o := po p + stN st * n) (q := q) (q' := q') (len := len) htu hz hm hlt w
            simp only [SV.val, Option.map_some, Option.map_none, advp_some hp, this, stN_some, addn_eq, Nat.add_mul, Nat.add_assoc, hb]
          · rename_i q l hb
            obtain ⟨hm, hlt, rfl, h0, h⟩ := h
            simp only [IxV, addO_iff] at h
            have hb := Nat.eq_of_beq_eq_true hb
            refine key _ h fun L hL w => ?_
            have hp := hL.rowp hl h0
            have := run_sliceFrom (P := P) (b := pb p) (o := po p + stN st * n) (q := q) htu hz hm hlt w
            simp only [SV.val, Option.map_some, Option.map_none, advp_some hp, this, stN_some, addn_eq, Nat.add_mul, Nat.add_assoc, hb]
          · exact h.elim
        · exact h.elim
      · exact h.elim
    · exact h.elim
  · rename_i x'
    split at h
    · rename_i q l q' m hs
      have hu := isStrT_ok hT hs
      obtain ⟨hm, h⟩ := h
      refine key _ h fun L hL w => ?_
      have g1 : 0 ≤ m ∧ m ≤ (x'.size : Int) := by omega
      have g2 : 0 ≤ l ∧ l ≤ ((m.toNat : Nat) : Int) := by omega
      simp only [SV.val, Option.map_some, Option.map_none, Instr.sliceAt, Instr.slice, run_UL hu.h, Instr.sliceBounds, Sem.run_bind, Result.andThen_ok]
      simp [run_bound g1, run_bound g2]
    · rename_i q l hs
      have hu := isStrT_ok hT hs
      obtain ⟨hm, h⟩ := h
      refine key _ h fun L hL w => ?_
      simp [Instr.sliceAt, Instr.slice, run_UL hu.h, SV.val, Instr.sliceBounds, Instr.sliceBound, asIntOf, hm]
    · rename_i q m hs
      have hu := isStrT_ok hT hs
      obtain ⟨hm, h⟩ := h
      refine key _ h fun L hL w => ?_
      simp [Instr.sliceAt, Instr.slice, run_UL hu.h, SV.val, Instr.sliceBounds, Instr.sliceBound, asIntOf, hm]
    · exact h.elim
  · exact h.elim

theorem vpure_ok {op : Op} (hT : T.All P) (h : vpure P T op E H k) : ∃ v, k v ∧ ∀ L, HR w0 X H L → Y P N (venv E) D ⟨w0, X, L, D⟩ ⟨dst, op, ty, pos, aft, g⟩ v.val := by
  unfold vpure at h
  split at h
  · obtain ⟨s, hs, h⟩ := get1_ok h; exact ⟨s, h, fun _ _ => Y.move hs⟩
  · obtain ⟨s, hs, h⟩ := get1_ok h; exact ⟨s, h, fun _ _ => Y.assign hs⟩
  · obtain ⟨s, hs, h⟩ := get1_ok h
    split at h
    · obtain ⟨u, hu, h⟩ := get1_ok h; exact ⟨u, h, fun _ _ => Y.pick_true hs hu⟩
    · obtain ⟨u, hu, h⟩ := get1_ok h; exact ⟨u, h, fun _ _ => Y.pick_false hs hu⟩
    · exact h.elim
  · obtain ⟨s, hs, h⟩ := get1_ok h; exact vload_ok hT h hs
  · obtain ⟨s, hs, h⟩ := get1_ok h
    split at h
    · exact ⟨_, h, fun _ _ => Y.nilCheck hs⟩
    · exact ⟨_, h, fun _ _ => Y.nilCheck hs⟩
    · exact ⟨_, h, fun _ _ => Y.nilCheck_func hs⟩
    · exact h.elim
  · obtain ⟨s, hs, h⟩ := get1_ok h
    obtain ⟨u, hu, h⟩ := get1_ok h
    obtain ⟨v, hv, hy⟩ := binK_ok_all hT h hs hu
    exact ⟨v, hv, fun L _ => hy _⟩
  · obtain ⟨s, hs, h⟩ := get1_ok h
    split at h
    · exact ⟨_, h, fun _ _ => Y.not hs⟩
    · exact ⟨_, h, fun _ _ => Y.not hs⟩
    · refine ⟨_, h.2, fun L hL => ?_⟩
      have := Y.neg (P := P) (N := N) (D := D) (S := ⟨w0, X, L, D⟩) (dst := dst) (ty := ty) (pos := pos) (aft := aft) (g := g) (t := by assumption) hs
      rwa [wrapI h.1] at this
    · exact h.elim
  · obtain ⟨s, hs, h⟩ := get1_ok h; obtain ⟨v, hv, hy⟩ := vconv_ok_all hT h hs; exact ⟨v, hv, fun L _ => hy _⟩
  · split at h
    · exact h.elim
    · rename_i y hy
      obtain ⟨s, hs, h⟩ := get1_ok h
      have hF := fldS_ok hT hy
      split at h
      · refine ⟨_, h, fun L hL => ?_⟩
        have := Y.fieldAddr (P := P) (N := N) (D := D) (S := ⟨w0, X, L, D⟩) (dst := dst) (ty := ty) (pos := pos) (aft := aft) (g := g) (u := hF) hs
        simpa [SV.val, Nat.add_assoc] using this
      · refine ⟨_, h, fun L hL => ?_⟩
        have := Y.fieldAddr (P := P) (N := N) (D := D) (S := ⟨w0, X, L, D⟩) (dst := dst) (ty := ty) (pos := pos) (aft := aft) (g := g) (u := hF) hs
        simpa [SV.val, Nat.add_assoc] using this
      · exact h.elim
  · split at h
    · exact h.elim
    · rename_i y hy
      obtain ⟨s, hs, h⟩ := get1_ok h
      split at h
      · obtain ⟨v, hv, hy⟩ := Y.field_g_all hT hy h hs; exact ⟨v, hv, fun L _ => hy _⟩
      · exact h.elim
  · obtain ⟨s, hs, h⟩ := get1_ok h
    obtain ⟨u, hu, h⟩ := get1_ok h
    exact vindexAddr_ok hT h hs hu
  · obtain ⟨s, hs, h⟩ := get1_ok h
    obtain ⟨u, hu, h⟩ := get1_ok h
    obtain ⟨v, hv, hy⟩ := vindex_ok_all hT h hs hu; exact ⟨v, hv, fun L _ => hy _⟩
  · obtain ⟨s, hs, h⟩ := get1_ok h
    split at h
    · split at h
      · rename_i u hu
        rw [nthS_eq] at hu
        exact ⟨u, h, fun _ _ => Y.extract hs (by simp [vals_map, hu])⟩
      · exact h.elim
    · exact h.elim
  · obtain ⟨v, hv, hy⟩ := vbuild_ok_all hT h; exact ⟨v, hv, fun L _ => hy _⟩
  · rename_i fn fs cs
    obtain ⟨l, hl, h⟩ := getL_ok h
    obtain ⟨m, hm, h⟩ := getL_ok h
    refine ⟨_, h, fun L hL => ?_⟩
    have := Y.makeFuncv (P := P) (N := N) (D := D) (S := ⟨w0, X, L, D⟩) (dst := dst) (ty := ty) (pos := pos) (aft := aft) (g := g) (fn := fn) hl hm
    simpa [SV.val] using this
  · obtain ⟨s, hs, h⟩ := get1_ok h
    obtain ⟨u1, hu1, h⟩ := getO_ok h
    obtain ⟨u2, hu2, h⟩ := getO_ok h
    obtain ⟨u3, hu3, h⟩ := getO_ok h
    exact vslice_ok hT h hs hu1 hu2 hu3
  · rename_i c
    split at h
    · rename_i b hb
      obtain ⟨l, hl, h⟩ := getL_ok h
      obtain ⟨v, hv, hy⟩ := vcall1_ok_all (N := N) (D := D) (dst := dst) (ty := ty) (pos := pos) (aft := aft) (g := g) hT h hl
      obtain ⟨callee, args, ats⟩ := c
      simp only at hb; subst hb
      exact ⟨v, hv, fun L _ => by simpa using hy ⟨w0, X, L, D⟩⟩
    · exact h.elim
  · exact h.elim
end
end Go.Proofs.Ytikaonfnaobciaa
