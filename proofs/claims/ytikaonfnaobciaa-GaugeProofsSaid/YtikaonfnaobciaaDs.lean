/- A call of the sort in a computed walk. -/
import Derived.Test.YtikaonfnaobciaaVh
import Derived.Test.YtikaonfnaobciaaSh
import Derived.Sort.OwnSortedInts
namespace Go.Proofs.Ytikaonfnaobciaa
open Go.RowKit Go.Sort
set_option linter.unusedVariables false
set_option linter.unusedSimpArgs false

def leI (x y : Int) : Bool := decide (x ≤ y)
def SortsAt (P : Program) (fk : Nat) : Prop := ∀ (blk cap : Nat) (zs : List Int) (w : World), Holds (Value.int .i64) w blk 0 zs.toArray → blk < w.heap.size → zs.length < 4611686018427387904 →
  Calls P fk #[.slice (some ⟨blk, 0, none⟩) zs.length cap] w fun e w' => e = .returned (.tuple #[]) ∧ ∃ n os, w' = grow (putRow (Value.int .i64) (Sort.ahead w n) blk 0 (zs.mergeSort leI).toArray) os
theorem sorts44 : SortsAt Try.prog 44 := fun blk cap zs w h1 h2 h3 => Any.slices_Sort_int Try.lays189 blk 0 cap zs w h1 h2 h3

theorem CallV.sort {P : Program} {w0 : World} {X : List Nat} {H : Heap} {D : List Nat} {fk : Nat} {fn : Func} {i len cap T : Nat} {p : Option Addr} {k : SV → Heap → Prop} (zs : List Int) (hF : FN P fk fn) (hs : SortsAt P fk) (hz : zs.length = len) (h0 : 0 < len) (hl : len < 4611686018427387904)
    (hlk : lkH H i = some (.row true p 1 T len cap (iRow zs))) (h : k (.tup []) (setH H i (.row true p 1 T len cap (iRow (zs.mergeSort leI))))) : CallV P w0 X D H fk [.sl i p 1 none len cap] k := by
  subst hz
  refine ⟨Unit, fun _ => True, fun _ => .tup [], fun _ => setH H i (.row true p 1 T zs.length cap (iRow (zs.mergeSort leI))), fn, hF, fun w L hL hw => ?_, fun _ _ => h⟩
  obtain ⟨M, A, hE, hp, hset⟩ := hL.split hlk
  cases hE with
  | own ho =>
    rcases ho with ⟨_, h2, _⟩ | ⟨b, cur, rfl, rfl, h1, h2, h3, h4⟩
    · omega
    · have hw2 := hw.perm hp
      have hb : w.heap[b]? = some (.cells cur.toArray T (0, 0)) := hw2.own (b, _) (by simp)
      have ht : cur.toArray.toList.take zs.length = zs.map (Value.int .i64) := by
        apply List.ext_getElem?
        intro j
        by_cases hj : j < zs.length
        · have e1 := (h4 j hj).1
          have hjc : j < cur.length := by omega
          rw [Nat.mul_one, List.drop_eq_getElem_cons hjc, List.take_succ_cons, List.take_zero] at e1
          have e2 : cur[j] = .int .i64 zs[j] := by
            simpa [iRow, SV.cs, SV.vals, SV.val, List.getD_eq_getElem?_getD, hj] using e1
          rw [List.getElem?_take_of_lt hj]
          simp [hj, hjc, e2]
        · rw [List.getElem?_take_eq_none (by omega), List.getElem?_eq_none (by simp; omega)]
      have hlt : b < w.heap.size := (Array.getElem?_eq_some_iff.1 hb).1
      have hc := hs b cap zs w (holds_of_blockI hb ht) hlt hl
      refine Calls.mono hc fun e w' ⟨he, n, os, hw'⟩ => ?_
      have hms : (zs.mergeSort leI).length = zs.length := List.length_mergeSort _
      have hob : w'.heap[b]? = some (.cells (putCells (Value.int .i64) 0 (zs.mergeSort leI).toArray cur.toArray) T (0, 0)) := by rw [hw']; exact heap_sortedI _ hb
      have hg : w.grownBy w' (some b) := by rw [hw']; exact grownBy_sortedI _
      obtain ⟨g1, g2, g3, g4, g5⟩ := hg
      have hnew : Wd ⟨w, [(b, Obj.cells cur.toArray T (0, 0))].map (·.1), [(b, Obj.cells (putCells (Value.int .i64) 0 (zs.mergeSort leI).toArray cur.toArray).toList.toArray T (0, 0))], []⟩ w' := by
        refine ⟨⟨g1, g2, g3, g4, fun k hk hx => g5 k hk (fun e => hx (by simp at e; simp [e]))⟩, fun q hq => ?_, fun q hq _ => ?_, by simp, by simp, by simp, by simp, fun q hq => ?_⟩
        · simp at hq; subst hq; simpa using hob
        · simp at hq; subst hq; simp
        · simp at hq; subst hq; rfl
      have hfr := hw2.frame (fun z hz => hz) hnew
      have hown : OwnRow (some ⟨b, 0, none⟩) 1 T zs.length cap (iRow (zs.mergeSort leI)) [(b, Obj.cells (putCells (Value.int .i64) 0 (zs.mergeSort leI).toArray cur.toArray).toList.toArray T (0, 0))] := by
        refine .inr ⟨b, (putCells (Value.int .i64) 0 (zs.mergeSort leI).toArray cur.toArray).toList, rfl, rfl, by simp [putCells, h1], h2, h3, fun j hj => ⟨?_, rfl⟩⟩
        have htk := take_putCellsI cur.toArray (zs.mergeSort leI) (by rw [hms]; simp; omega)
        rw [hms] at htk
        have hj2 : j < (zs.mergeSort leI).length := by omega
        have e3 := congrArg (·[j]?) htk
        simp only [List.getElem?_take_of_lt hj, List.getElem?_map, List.getElem?_eq_getElem hj2, Option.map_some] at e3
        obtain ⟨e4, e5⟩ := List.getElem?_eq_some_iff.1 e3
        rw [Nat.mul_one, List.drop_eq_getElem_cons e4, List.take_succ_cons, List.take_zero, e5]
        have e6 : (zs.mergeSort leI).getD j 0 = (zs.mergeSort leI)[j] := by rw [List.getD_eq_getElem?_getD, List.getElem?_eq_getElem hj2]; rfl
        show _ = [Value.int .i64 ((zs.mergeSort leI).getD j 0)]
        rw [e6]
      obtain ⟨L', hL', hp'⟩ := hset _ _ (.own hown)
      exact ⟨(), L', he, trivial, hL', hfr.perm hp'.symm⟩
/-- A temporary read in another form of the same value. -/
def setE : SEnv → Nat → SV → SEnv
  | [], _, _ => []
  | (t, x) :: r, u, s => match Nat.beq t u with
    | true => (t, s) :: r
    | false => (t, x) :: setE r u s
theorem LoopV.reset {P : Program} {N : Nat} {w0 : World} {X : List Nat} {r : Option Nat} {c : Code} {k : Exit → SEnv → Heap → List Nat → Prop} {E : SEnv} {H : Heap} {D : List Nat} (t : Nat) (s : SV) (he : venv (setE E t s) = venv E) (h : LoopV P N w0 X r c k (setE E t s) H D) : LoopV P N w0 X r c k E H D := by
  unfold LoopV Means VSt at h ⊢
  rw [he] at h
  exact h
theorem chunk_fit1 {j : Nat} {k : IntKind} {n : Int} (h : j < 0 + 1) : addK none j fun j => (chunk false 1 [SV.int k n] j).fit := by
  have : j = 0 := Nat.lt_one_iff.1 h
  subst this
  trivial
theorem bytes_le1 {k b c : Nat} (h : b ≤ 100000) (h2 : (k + 1) * 100000 ≤ c) : (k + (0 + 1)) * b ≤ c := bytes_le h h2
theorem LoopV.nilrow {P : Program} {N : Nat} {w0 : World} {X : List Nat} {r : Option Nat} {c : Code} {k : Exit → SEnv → Heap → List Nat → Prop} {E : SEnv} {H : Heap} {D : List Nat} (i n T : Nat) (f : Nat → SV) (h : LoopV P N w0 X r c k E ((i, .row true none n T 0 0 f) :: H) D) : LoopV P N w0 X r c k E H D :=
  fun Q hk L hL => h Q hk L (.cons (M := []) (.own (.inl ⟨rfl, rfl, rfl, rfl⟩)) hL)
end Go.Proofs.Ytikaonfnaobciaa
