/- Odds and ends. -/
import Derived.Test.YtikaonfnaobciaaSxJ
namespace Go.Proofs.Ytikaonfnaobciaa
open Go.RowKit
theorem Pick.rest : ∀ {L : List (Nat × Obj)}, Pick L [] L
  | [] => .nil
  | _ :: _ => .leave Pick.rest
section
variable {P : Program} {N : Nat} {E : Env} {D : List Nat} {w0 : World} {X : List Nat} {L : List (Nat × Obj)}
theorem St.leave0 {fn : Func} {R : Ending → World → Prop} {rs : List ResultVar} {vs : List Value} (hfn : fn.results = rs.toArray) (hres : Res P E L rs vs) (hR : ∀ w, Wd ⟨w0, X, L, []⟩ w → R (.returned (oneOf vs)) w) :
    St N E D ⟨w0, X, L, D⟩ (Post P fn R .ret) := by
  have := St.leave (N := N) (D := D) (M := []) hfn hres hR
  rwa [List.append_nil] at this
theorem St.leave_end0 {fn : Func} {R : Ending → World → Prop} {rs : List ResultVar} {vs : List Value} (hfn : fn.results = rs.toArray) (hres : Res P E L rs vs) (hR : ∀ w, Wd ⟨w0, X, L, []⟩ w → R (.returned (oneOf vs)) w) :
    St N E D ⟨w0, X, L, D⟩ (Post P fn R .normal) := by
  have := St.leave_end (N := N) (D := D) (M := []) hfn hres hR
  rwa [List.append_nil] at this
end
theorem Pick.all : ∀ {L : List (Nat × Obj)}, Pick L L []
  | [] => .nil
  | _ :: _ => .take Pick.all
theorem perm22 (a b c d : Nat × Obj) (l : List (Nat × Obj)) : (a :: b :: c :: d :: l).Perm (c :: d :: a :: b :: l) := List.Perm.append_right l (List.perm_append_comm (l₁ := [a, b]) (l₂ := [c, d]))
theorem mem_keys {L : List (Nat × Obj)} {y : Nat} (h : y ∈ L.map (·.1)) : ∃ o, (y, o) ∈ L := by
  obtain ⟨p, hp, rfl⟩ := List.mem_map.1 h
  exact ⟨p.2, hp⟩
theorem RowOk.form {e size n : Nat} {v : Value} {xs : List Value} {Lr : List (Nat × Obj)} (h : RowOk e size v n xs Lr) : ∃ p cap, v = .slice p n cap := by
  cases h with
  | nil => exact ⟨none, 0, rfl⟩
  | row => exact ⟨_, _, rfl⟩
def zrow : Nat → List Value → List Value
  | 0, _ => []
  | n + 1, zs => zs ++ zrow n zs
theorem zeroRow_eq (zs : List Value) : ∀ n, zeroRow (n * zs.length) zs = zrow n zs
  | 0 => by simp [zeroRow, zrow]
  | n + 1 => by
    have ih := zeroRow_eq zs n
    unfold zeroRow at ih ⊢
    rw [Nat.add_one_mul, Nat.add_comm (n * zs.length)]
    simp only [Array.toList_map, Array.toList_range, List.range_add, List.map_append, List.map_map, zrow, List.size_toArray] at ih ⊢
    rw [← ih]
    congr 1
    · refine List.ext_getElem (by simp) fun i h1 h2 => ?_
      have hi : i < zs.length := h2
      simp [Nat.mod_eq_of_lt hi, hi]
    · refine List.map_congr_left fun i _ => ?_
      simp [Nat.add_mod_left]
theorem St.buildSlicev {P : Program} {r : Option Nat} {N : Nat} {E : Env} {D : List Nat} {K : Act → World → Prop} {w0 : World} {X : List Nat} {L : List (Nat × Obj)} {M : List Nat} {d : Nat} {ty : TypeId} {pos : String} {aft : Array Edge} {g : Option (Nat × Bool)}
    {t e sz len : Nat} {z : Value} {zs l : List Value} {ps : List (Nat × Operand)} {pv : List (Nat × Value)} [u : UL P t (.slice e)] [hs : SZ P e sz] [zv : ZV P e z] (hz : z.cells = zs.toArray) (hlen : zs.length = sz) (hpos : Nat.blt 0 (len * sz) = true) (hmax : Nat.ble (len * sz) 16777216 = true)
    (hps : Parts E ps pv) (hf : Fills ((List.range len).map fun k => (k * sz, sz)) pv (zrow len zs) l) (hd : Nat.blt d N = true)
    (h : ∀ b, St N ((d, .slice (some ⟨b, 0, none⟩) len len) :: E) D ⟨w0, X, (b, .cells l.toArray e (0, 0)) :: L, M⟩ K) :
    St N E D ⟨w0, X, L, M⟩ (Op1 P r ⟨some d, .buildSlice t len ps.toArray, ty, pos, aft, g⟩ K) := by
  have hf' := hf
  rw [← zeroRow_eq, hlen] at hf'
  refine St.buildSlice hz hpos hmax hps hf' (fun p hp => ?_) hd h
  have key : ∀ {pv : List (Nat × Value)} {l l' : List Value}, Fills ((List.range len).map fun k => (k * sz, sz)) pv l l' → ∀ p ∈ pv, p.1 < len := by
    intro pv l l' h
    induction h with
    | nil => intro p hp; cases hp
    | cons hp _ _ _ _ ih =>
      intro q hq
      rcases List.mem_cons.1 hq with rfl | hq
      · have := (List.getElem?_eq_some_iff.1 hp).1
        simpa using this
      · exact ih q hq
  exact key hf p hp
end Go.Proofs.Ytikaonfnaobciaa
