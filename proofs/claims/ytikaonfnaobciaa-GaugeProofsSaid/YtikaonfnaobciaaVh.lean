/- Calls that hand new rows back; what a function hands back in new rows. -/
import Derived.Test.YtikaonfnaobciaaVg
namespace Go.Proofs.Ytikaonfnaobciaa
open Go.RowKit
set_option linter.unusedVariables false
set_option linter.unusedSimpArgs false

theorem HR.append {w0 : World} {X : List Nat} {H1 H2 : Heap} {L1 L2 : List (Nat × Obj)} (h1 : HR w0 X H1 L1) (h2 : HR w0 X H2 L2) : HR w0 X (H1 ++ H2) (L1 ++ L2) := by
  induction h1 with
  | nil => exact h2
  | cons h _ ih => rw [List.append_assoc]; exact .cons h ih
def ownB : Heap → Bool
  | [] => true
  | (_, .cells ..) :: r => ownB r
  | (_, .row true ..) :: r => ownB r
  | (_, .blk ..) :: r => ownB r
  | (_, .bag ..) :: r => ownB r
  | _ :: _ => false
theorem HR.anyw {w0 : World} {X : List Nat} {H : Heap} {L : List (Nat × Obj)} (h : HR w0 X H L) (ho : ownB H = true) (w1 : World) (X1 : List Nat) : HR w1 X1 H L := by
  induction h with
  | nil => exact .nil
  | cons h _ ih =>
    cases h with
    | cells => exact .cons .cells (ih ho)
    | own h => exact .cons (.own h) (ih ho)
    | ext => cases ho
    | xcells => cases ho
    | blk => exact .cons .blk (ih ho)
    | bag => exact .cons .bag (ih ho)

/-- The callee hands back one of vx, with new rows Hn. -/
def NewPost {ι : Type} (w : World) (Z : ι → Prop) (vx : ι → SV) (Hn : ι → Heap) (e : Ending) (w' : World) : Prop :=
  ∃ x L', e = .returned (vx x).val ∧ Z x ∧ (∀ w1 X1, HR w1 X1 (Hn x) L') ∧ Wd ⟨w, [], L', []⟩ w'
def New_ (P : Program) (k : Nat) (args : List Value) {ι : Type} (Z : ι → Prop) (vx : ι → SV) (Hn : ι → Heap) (w : World) : Prop := Calls P k args.toArray w (NewPost w Z vx Hn)

section
variable {P : Program} {T : Tr} {N : Nat} {w0 : World} {X : List Nat} {r : Option Nat} {hand : Modes} {E : SEnv} {H : Heap} {D : List Nat} {L : List (Nat × Obj)}
theorem CallV.new {fk : Nat} {fn : Func} {args : List SV} {k : SV → Heap → Prop} {ι : Type} {Z : ι → Prop} {vx : ι → SV} {Hn : ι → Heap} (hF : FN P fk fn) (hc : ∀ w L, HR w0 X H L → Wd ⟨w0, X, L, D⟩ w → New_ P fk (SV.vals args) Z vx Hn w) (h : ∀ x, Z x → k (vx x) (Hn x ++ H)) : CallV P w0 X D H fk args k :=
  ⟨ι, Z, vx, fun x => Hn x ++ H, fn, hF, fun w L hL hw => Calls.mono (hc w L hL hw) fun e w' ⟨x, L', he, hz, hL', hk⟩ =>
    ⟨x, L' ++ L, he, hz, (hL' w0 X).append hL, ((hw.perm (L' := L ++ []) (by rw [List.append_nil])).frame (fun z hz => by cases hz) hk).perm List.perm_append_comm⟩, h⟩
theorem FinV.new {w : World} {ι : Type} {Z : ι → Prop} {vx : ι → SV} {Hn : ι → Heap} {s : SV} (x : ι) (hs : s = vx x) (hz : Z x) (ho : ownB (Hn x) = true) (hd : distinctB (Hn x) = true) (hsub : subH (Hn x) H) : FinV w [] (NewPost w Z vx Hn) s H := fun L w' hL hw => by
  obtain ⟨L', h1, h2⟩ := subH_wd (D := []) hd hsub hL
  exact ⟨x, L', by rw [hs], hz, fun w1 X1 => h1.anyw ho w1 X1, h2 w' hw⟩
theorem V.new {kf : Nat} {fn : Func} {c : Code} {rs : List ResultVar} {args : List SV} {ι : Type} {Z : ι → Prop} {vx : ι → SV} {Hn : ι → Heap} {w : World} (hT : T.All P) (hm : P.follows .mixedOrders = true) (hand : Modes) (hf : P.funcs[kf]? = some fn) (hb : fn.body = some c) (hN : fn.ntmps = N) (hl : Nat.ble args.length N = true) (hrs : fn.results = rs.toArray)
    (hL : HR w [] H []) (h : vcode P T N w [] none hand c (endK T w [] rs (NewPost w Z vx Hn)) (argS 0 args) H []) : New_ P kf (SV.vals args) Z vx Hn w :=
  V.fn hT hm hand hf hb hN hl hrs hL (wd_start w) h
/-- A pure contract as one that hands new rows back, and none. -/
theorem New_.of_pure {k : Nat} {args : List Value} {w : World} {v : SV} (h : Pure_ P k args v.val w) : New_ P k args (fun _ : Unit => True) (fun _ => v) (fun _ => []) w :=
  Calls.mono h fun e w' ⟨he, hk⟩ => ⟨(), [], he, trivial, fun _ _ => .nil, ⟨hk, by simp, by simp, by simp, by simp, by simp, by simp, by simp⟩⟩
end

theorem wf_tdiv {m n : Int} (h : -9223372036854775807 ≤ m ∧ m ≤ 9223372036854775807) : wf64 (m.tdiv n) := by
  have h1 : (m.tdiv n).natAbs = m.natAbs / n.natAbs := Int.natAbs_tdiv m n
  have h2 : m.natAbs / n.natAbs ≤ m.natAbs := Nat.div_le_self _ _
  unfold wf64; omega

theorem bytes_leZ {b : Nat} {c d : Int} (h : b ≤ 100000) (h0 : 0 ≤ c) (h2 : 100000 * c ≤ d) : (b : Int) * c ≤ d := by
  have : (b : Int) * c ≤ 100000 * c := Int.mul_le_mul_of_nonneg_right (by omega) h0
  omega
theorem LoopV.bag {P : Program} {N : Nat} {w0 : World} {X : List Nat} {r : Option Nat} {c : Code} {k : Exit → SEnv → Heap → List Nat → Prop} {E : SEnv} {H : Heap} {D : List Nat} (i : Nat) (h : LoopV P N w0 X r c k E ((i, .bag []) :: H) D) : LoopV P N w0 X r c k E H D :=
  fun Q hk L hL => h Q hk L (.cons .bag hL)
theorem Known.mk {w0 : World} {X D : List Nat} {H : Heap} {p : Option Addr} {n len : Nat} {g : Nat → SV} (h : ∀ w L, HR w0 X H L → Wd ⟨w0, X, L, D⟩ w → RowAt w p n len g) : Known w0 X D H p n len g := h
theorem bytes_le {a b c : Nat} (h : b ≤ 100000) (h2 : a * 100000 ≤ c) : a * b ≤ c := Nat.le_trans (Nat.mul_le_mul_left a h) h2

/-! Rows of whole numbers. -/
def iRow (l : List Int) : Nat → SV := fun j => .int .i64 (l.getD j 0)
theorem RowOk.ownRow {T n : Nat} {v : Value} {l : List Int} {xs : List Value} {Lr : List (Nat × Obj)} (h : RowOk T 1 v n xs Lr) (hx : xs = l.map (.int .i64)) : ∃ p cap, v = .slice p n cap ∧ l.length = n ∧ OwnRow p 1 T n cap (iRow l) Lr := by
  cases h with
  | nil =>
    cases l with
    | nil => exact ⟨none, 0, rfl, rfl, .inl ⟨rfl, rfl, rfl, rfl⟩⟩
    | cons a l => simp at hx
  | @row b n cap cur hlen hn hcap =>
    have hl : l.length = n := by
      have := congrArg List.length hx
      simp only [List.length_take, List.length_map] at this
      omega
    refine ⟨_, cap, rfl, hl, .inr ⟨b, cur, rfl, rfl, hlen, hn, hcap, fun j hj => ⟨?_, rfl⟩⟩⟩
    have hj2 : j < l.length := by omega
    have h1 : cur[j]? = some (.int .i64 l[j]) := by
      have := congrArg (·[j]?) hx
      simp only [List.getElem?_take, List.getElem?_map] at this
      rw [if_pos (by omega), List.getElem?_eq_getElem hj2] at this
      exact this
    have h2 : j < cur.length := by omega
    rw [Nat.mul_one, List.drop_eq_getElem_cons h2, List.take_succ_cons, List.take_zero]
    rw [List.getElem?_eq_getElem h2] at h1
    simp only [Option.some.injEq] at h1
    simp [SV.cs, SV.vals, SV.val, iRow, h1, List.getD_eq_getElem?_getD, hj2]
theorem RowAt.ints {w : World} {p : Option Addr} {len : Nat} {l : List Int} (h : RowAt w p 1 len (iRow l)) (hl : l.length ≤ len) : ∀ k n, l[k]? = some n → ∃ b o, p = some ⟨b, o, none⟩ ∧ Cs w b (o + k * 1) [.int .i64 n] := fun k n hk => by
  have hlt := (List.getElem?_eq_some_iff.1 hk).1
  obtain ⟨h1, h2, _⟩ := h k (by omega)
  refine ⟨_, _, h1, ?_⟩
  have : (iRow l k) = .int .i64 n := by simp [iRow, List.getD_eq_getElem?_getD, hk]
  rw [this] at h2
  exact h2
end Go.Proofs.Ytikaonfnaobciaa
