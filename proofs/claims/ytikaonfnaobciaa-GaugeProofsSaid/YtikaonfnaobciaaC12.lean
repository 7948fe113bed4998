import Derived.Test.YtikaonfnaobciaaC11
namespace Go.Proofs.Ytikaonfnaobciaa
open Go.RowKit
attribute [local irreducible] Y St GSt
set_option maxRecDepth 100000
set_option linter.unusedVariables false
set_option linter.unusedSimpArgs false
set_option linter.unnecessarySimpa false

def leS (l : List Ga) (a b : Int) : Int × List Int × Int := extS l a b (fun g => g.lo) (fun x y => decide (y < x))
def moS (l : List Ga) (a b : Int) : Int × List Int × Int := extS l a b (fun g => g.hi) (fun x y => decide (x < y))
/-- A number, a row of numbers and an error are handed back. -/
def Ret3 (r : Int × List Int × Int) (w : World) (e : Ending) (w' : World) : Prop :=
  ∃ x : Value × List (Nat × Obj), e = .returned (.tuple [.int .i64 r.1, x.1, .int .i64 r.2.2].toArray) ∧ RowOk 3 1 x.1 r.2.1.length (r.2.1.map (.int .i64)) x.2 ∧ Wd ⟨w, [], x.2, []⟩ w'

theorem Least_any (p : Option Addr) (cap : Nat) (l : List Ga) (a b : Int) (w : World) (hl : l.length ≤ 9223372036854775807) (hG : GsAt w p l) :
    Calls Try.prog 10 #[.slice p l.length cap, .int .i64 a, .int .i64 b] w (Ret3 (leS l a b) w) := by
  refine enter (vs := [.slice p l.length cap, .int .i64 a, .int .i64 b]) Try.func10 rfl Try.ntmps10 rfl (wd_start w) ?_
  (focus ((with_reducible apply St.seq); (with_reducible apply St.region); (with_reducible apply St.opr); rfl; rfl; (with_reducible apply St.val); exact Y.assign rfl; rfl; (with_reducible apply St.opr); rfl; rfl; (with_reducible apply St.val); exact Y.assign rfl; rfl; (with_reducible apply St.opr); rfl; rfl; (with_reducible apply St.val); exact Y.assign rfl; rfl; (with_reducible apply St.nil); (with_reducible apply St.then_); (with_reducible apply St.seq); (with_reducible apply St.region); (with_reducible apply St.opr); rfl; rfl; (with_reducible apply St.val); exact Y.move rfl; rfl; (with_reducible apply St.opr); rfl; rfl; (with_reducible apply St.val); exact Y.move rfl; rfl; (with_reducible apply St.opr); rfl; rfl; (with_reducible apply St.val); exact Y.move rfl; rfl; rotate_left))
  (with_reducible apply St.opr); (focus (rfl; done)); (focus (rfl; done))
  with_reducible apply St.calln (ι := Value × List (Nat × Obj)) (Z := fun x => RowOk 3 1 x.1 (leS l a b).2.1.length ((leS l a b).2.1.map (.int .i64)) x.2) (Lx := fun x => x.2) (vx := fun x => .tuple [.int .i64 (leS l a b).1, x.1, .int .i64 (leS l a b).2.2].toArray)
  · rfl
  · infer_instance
  · (repeat (first | (exact Args.nil) | ((apply Args.cons); focus (rfl))))
  · exact fun w' hk _ => extreme_any (sel := fun a b => a) (btr := fun x y => decide (y < x)) (fun a b w => least1_any a b w) (fun x y w => by simpa using least2_any x y w) (fun a b => .inl rfl) p cap l a b w' hl (hG.kp hk (by simp))
  · rfl
  rintro ⟨v1, L1⟩ hrow
  simp only at hrow
  simp only [List.append_nil]
  (focus ((with_reducible apply St.opr); rfl; rfl; (with_reducible apply St.val); exact Y.extractv rfl rfl; rfl; (with_reducible apply St.opr); rfl; rfl; (with_reducible apply St.val); exact Y.extractv rfl rfl; rfl; (with_reducible apply St.opr); rfl; rfl; (with_reducible apply St.val); exact Y.extractv rfl rfl; rfl; (with_reducible apply St.opr); rfl; rfl; (with_reducible apply St.val); exact Y.assign rfl; rfl; (with_reducible apply St.opr); rfl; rfl; (with_reducible apply St.val); exact Y.assign rfl; rfl; (with_reducible apply St.opr); rfl; rfl; (with_reducible apply St.val); exact Y.assign rfl; rfl; (with_reducible apply St.nil); (with_reducible apply St.then_); (with_reducible apply St.ret); rotate_left))
  exact St.leave (D := []) (M := []) rfl (by (repeat (first | (exact Res.nil) | ((apply Res.tmp); (focus (rfl))) | ((apply Res.agg); (focus (rfl)); (focus ((repeat (first | (exact List.Mem.head _) | (apply List.Mem.tail))); done)); (focus ((repeat (first | (exact GetAt.zero) | (apply GetAt.take) | (apply GetAt.skip))); done))) | ((apply Res.one); (focus (rfl)); (focus ((repeat (first | (exact List.Mem.head _) | (apply List.Mem.tail))); done)); (focus ((repeat (first | (exact GetAt.zero) | (apply GetAt.take) | (apply GetAt.skip))); done)))))) (fun w hw => ⟨(v1, L1), rfl, hrow, hw⟩)

theorem Most_any (p : Option Addr) (cap : Nat) (l : List Ga) (a b : Int) (w : World) (hl : l.length ≤ 9223372036854775807) (hG : GsAt w p l) :
    Calls Try.prog 11 #[.slice p l.length cap, .int .i64 a, .int .i64 b] w (Ret3 (moS l a b) w) := by
  refine enter (vs := [.slice p l.length cap, .int .i64 a, .int .i64 b]) Try.func11 rfl Try.ntmps11 rfl (wd_start w) ?_
  (focus ((with_reducible apply St.seq); (with_reducible apply St.region); (with_reducible apply St.opr); rfl; rfl; (with_reducible apply St.val); exact Y.assign rfl; rfl; (with_reducible apply St.opr); rfl; rfl; (with_reducible apply St.val); exact Y.assign rfl; rfl; (with_reducible apply St.opr); rfl; rfl; (with_reducible apply St.val); exact Y.assign rfl; rfl; (with_reducible apply St.nil); (with_reducible apply St.then_); (with_reducible apply St.seq); (with_reducible apply St.region); (with_reducible apply St.opr); rfl; rfl; (with_reducible apply St.val); exact Y.move rfl; rfl; (with_reducible apply St.opr); rfl; rfl; (with_reducible apply St.val); exact Y.move rfl; rfl; (with_reducible apply St.opr); rfl; rfl; (with_reducible apply St.val); exact Y.move rfl; rfl; rotate_left))
  (with_reducible apply St.opr); (focus (rfl; done)); (focus (rfl; done))
  with_reducible apply St.calln (ι := Value × List (Nat × Obj)) (Z := fun x => RowOk 3 1 x.1 (moS l a b).2.1.length ((moS l a b).2.1.map (.int .i64)) x.2) (Lx := fun x => x.2) (vx := fun x => .tuple [.int .i64 (moS l a b).1, x.1, .int .i64 (moS l a b).2.2].toArray)
  · rfl
  · infer_instance
  · (repeat (first | (exact Args.nil) | ((apply Args.cons); focus (rfl))))
  · exact fun w' hk _ => extreme_any (sel := fun a b => b) (btr := fun x y => decide (x < y)) (fun a b w => most1_any a b w) (fun x y w => by simpa using most2_any x y w) (fun a b => .inr rfl) p cap l a b w' hl (hG.kp hk (by simp))
  · rfl
  rintro ⟨v1, L1⟩ hrow
  simp only at hrow
  simp only [List.append_nil]
  (focus ((with_reducible apply St.opr); rfl; rfl; (with_reducible apply St.val); exact Y.extractv rfl rfl; rfl; (with_reducible apply St.opr); rfl; rfl; (with_reducible apply St.val); exact Y.extractv rfl rfl; rfl; (with_reducible apply St.opr); rfl; rfl; (with_reducible apply St.val); exact Y.extractv rfl rfl; rfl; (with_reducible apply St.opr); rfl; rfl; (with_reducible apply St.val); exact Y.assign rfl; rfl; (with_reducible apply St.opr); rfl; rfl; (with_reducible apply St.val); exact Y.assign rfl; rfl; (with_reducible apply St.opr); rfl; rfl; (with_reducible apply St.val); exact Y.assign rfl; rfl; (with_reducible apply St.nil); (with_reducible apply St.then_); (with_reducible apply St.ret); rotate_left))
  exact St.leave (D := []) (M := []) rfl (by (repeat (first | (exact Res.nil) | ((apply Res.tmp); (focus (rfl))) | ((apply Res.agg); (focus (rfl)); (focus ((repeat (first | (exact List.Mem.head _) | (apply List.Mem.tail))); done)); (focus ((repeat (first | (exact GetAt.zero) | (apply GetAt.take) | (apply GetAt.skip))); done))) | ((apply Res.one); (focus (rfl)); (focus ((repeat (first | (exact List.Mem.head _) | (apply List.Mem.tail))); done)); (focus ((repeat (first | (exact GetAt.zero) | (apply GetAt.take) | (apply GetAt.skip))); done)))))) (fun w hw => ⟨(v1, L1), rfl, hrow, hw⟩)

/-- both: bounds, rows, error. -/
def boS (l : List Ga) (a b : Int) : (Int × Int) × List Int × List Int × Int :=
  if (leS l a b).2.2 = 0 then (((leS l a b).1, (moS l a b).1), (leS l a b).2.1, (moS l a b).2.1, (moS l a b).2.2) else ((0, 0), [], [], (leS l a b).2.2)
def Ret4 (r : (Int × Int) × List Int × List Int × Int) (w : World) (e : Ending) (w' : World) : Prop :=
  ∃ x : (Value × List (Nat × Obj)) × (Value × List (Nat × Obj)), e = .returned (.tuple [.agg [.int .i64 r.1.1, .int .i64 r.1.2].toArray, x.1.1, x.2.1, .int .i64 r.2.2.2].toArray) ∧
    (RowOk 3 1 x.1.1 r.2.1.length (r.2.1.map (.int .i64)) x.1.2 ∧ RowOk 3 1 x.2.1 r.2.2.1.length (r.2.2.1.map (.int .i64)) x.2.2) ∧ Wd ⟨w, [], x.2.2 ++ x.1.2, []⟩ w'

theorem both_any (p : Option Addr) (cap : Nat) (l : List Ga) (a b : Int) (w : World) (hl : l.length ≤ 9223372036854775807) (hG : GsAt w p l) :
    Calls Try.prog 38 #[.slice p l.length cap, .int .i64 a, .int .i64 b] w (Ret4 (boS l a b) w) := by
  refine enter (vs := [.slice p l.length cap, .int .i64 a, .int .i64 b]) Try.func38 rfl Try.ntmps38 rfl (wd_start w) ?_
  (focus ((with_reducible apply St.seq); (with_reducible apply St.region); (with_reducible apply St.opr); rfl; rfl; (with_reducible apply St.alloc_agg); rfl; intro b; (with_reducible apply St.opr); rfl; rfl; (with_reducible apply St.val); exact Y.assign rfl; rfl; (with_reducible apply St.opr); rfl; rfl; (with_reducible apply St.val); exact Y.assign rfl; rfl; (with_reducible apply St.opr); rfl; rfl; (with_reducible apply St.val); exact Y.assign rfl; rfl; (with_reducible apply St.nil); (with_reducible apply St.then_); (with_reducible apply St.seq); (with_reducible apply St.seq); (with_reducible apply St.region); (with_reducible apply St.opr); rfl; rfl; (with_reducible apply St.val); exact Y.move rfl; rfl; (with_reducible apply St.opr); rfl; rfl; (with_reducible apply St.val); exact Y.move rfl; rfl; (with_reducible apply St.opr); rfl; rfl; (with_reducible apply St.val); exact Y.move rfl; rfl; rotate_left))
  rename Nat => b6
  (with_reducible apply St.opr); (focus (rfl; done)); (focus (rfl; done))
  with_reducible apply St.calln (ι := Value × List (Nat × Obj)) (Z := fun x => RowOk 3 1 x.1 (leS l a b).2.1.length ((leS l a b).2.1.map (.int .i64)) x.2) (Lx := fun x => x.2) (vx := fun x => .tuple [.int .i64 (leS l a b).1, x.1, .int .i64 (leS l a b).2.2].toArray)
  · rfl
  · infer_instance
  · (repeat (first | (exact Args.nil) | ((apply Args.cons); focus (rfl))))
  · exact fun w' hk _ => Least_any p cap l a b w' hl (hG.kp hk (by simp))
  · rfl
  rintro ⟨v1, L1⟩ hrow
  simp only at hrow
  obtain ⟨p1, cap1, hv1⟩ := hrow.form
  subst hv1
  refine St.permL (L' := (b6, .cells [.int .i64 0, .int .i64 0].toArray 24 (0, 0)) :: L1) (by simpa using List.perm_append_comm (l₁ := L1) (l₂ := [(b6, Obj.cells [.int .i64 0, .int .i64 0].toArray 24 (0, 0))])) ?_
  by_cases he : (leS l a b).2.2 = 0
  · (focus ((with_reducible apply St.opr); rfl; rfl; (with_reducible apply St.val); exact Y.move rfl; rfl; (with_reducible apply St.opr); rfl; rfl; (with_reducible apply St.val); exact Y.extractv rfl rfl; rfl; (with_reducible apply St.opr); rfl; rfl; (with_reducible apply St.val); exact Y.extractv rfl rfl; rfl; (with_reducible apply St.opr); rfl; rfl; (with_reducible apply St.val); exact Y.extractv rfl rfl; rfl; (with_reducible apply St.opr); rfl; rfl; (with_reducible apply St.val); exact Y.fieldAddr rfl; rfl; (with_reducible apply St.opr); rfl; rfl; (with_reducible apply St.store); rfl; rfl; rfl; rfl; exact Rep.head; apply SetAt.take; exact SetAt.done; rfl; (with_reducible apply St.opr); rfl; rfl; (with_reducible apply St.val); exact Y.assign rfl; rfl; (with_reducible apply St.opr); rfl; rfl; (with_reducible apply St.val); exact Y.assign rfl; rfl; (with_reducible apply St.nil); (with_reducible apply St.then_); (with_reducible apply St.seq); (with_reducible apply St.region); (with_reducible apply St.opr); rfl; rfl; (with_reducible apply St.val); exact Y.move rfl; rfl; (with_reducible apply St.opr); rfl; rfl; (with_reducible apply St.val); exact Y.neqd rfl rfl; rfl; (with_reducible apply St.dec_f); omega; (with_reducible apply St.nil); (with_reducible apply St.then_); (with_reducible apply St.cond_false); rfl; (with_reducible apply St.skip); (with_reducible apply St.then_); (with_reducible apply St.seq); (with_reducible apply St.region); (with_reducible apply St.opr); rfl; rfl; (with_reducible apply St.val); exact Y.move rfl; rfl; (with_reducible apply St.opr); rfl; rfl; (with_reducible apply St.val); exact Y.move rfl; rfl; (with_reducible apply St.opr); rfl; rfl; (with_reducible apply St.val); exact Y.move rfl; rfl; rotate_left))
    (with_reducible apply St.opr); (focus (rfl; done)); (focus (rfl; done))
    with_reducible apply St.calln (ι := Value × List (Nat × Obj)) (Z := fun x => RowOk 3 1 x.1 (moS l a b).2.1.length ((moS l a b).2.1.map (.int .i64)) x.2) (Lx := fun x => x.2) (vx := fun x => .tuple [.int .i64 (moS l a b).1, x.1, .int .i64 (moS l a b).2.2].toArray)
    · rfl
    · infer_instance
    · (repeat (first | (exact Args.nil) | ((apply Args.cons); focus (rfl))))
    · exact fun w' hk _ => Most_any p cap l a b w' hl (hG.kp hk (by simp))
    · rfl
    rintro ⟨v2, L2⟩ hrow2
    simp only at hrow2
    refine St.permL (L' := (b6, .cells [.int .i64 (leS l a b).1, .int .i64 0].toArray 24 (0, 0)) :: (L2 ++ L1)) List.perm_middle ?_
    (focus ((with_reducible apply St.opr); rfl; rfl; (with_reducible apply St.val); exact Y.move rfl; rfl; (with_reducible apply St.opr); rfl; rfl; (with_reducible apply St.val); exact Y.extractv rfl rfl; rfl; (with_reducible apply St.opr); rfl; rfl; (with_reducible apply St.val); exact Y.extractv rfl rfl; rfl; (with_reducible apply St.opr); rfl; rfl; (with_reducible apply St.val); exact Y.extractv rfl rfl; rfl; (with_reducible apply St.opr); rfl; rfl; (with_reducible apply St.val); exact Y.fieldAddr rfl; rfl; (with_reducible apply St.opr); rfl; rfl; (with_reducible apply St.store); rfl; rfl; rfl; rfl; exact Rep.head; apply SetAt.skip; apply SetAt.take; exact SetAt.done; rfl; (with_reducible apply St.opr); rfl; rfl; (with_reducible apply St.val); exact Y.assign rfl; rfl; (with_reducible apply St.opr); rfl; rfl; (with_reducible apply St.val); exact Y.assign rfl; rfl; (with_reducible apply St.nil); (with_reducible apply St.then_); (with_reducible apply St.seq); (with_reducible apply St.region); (with_reducible apply St.opr); rfl; rfl; (with_reducible apply St.val); (with_reducible apply Y.load_agg); rfl; exact List.Mem.head _; apply GetAt.take; apply GetAt.take; exact GetAt.zero; rfl; (with_reducible apply St.opr); rfl; rfl; (with_reducible apply St.val); exact Y.move rfl; rfl; (with_reducible apply St.opr); rfl; rfl; (with_reducible apply St.val); exact Y.move rfl; rfl; (with_reducible apply St.opr); rfl; rfl; (with_reducible apply St.val); exact Y.move rfl; rfl; (with_reducible apply St.opr); rfl; rfl; (with_reducible apply St.store); rfl; rfl; rfl; rfl; exact Rep.head; apply SetAt.take; apply SetAt.take; exact SetAt.done; rfl; (with_reducible apply St.opr); rfl; rfl; (with_reducible apply St.val); exact Y.assign rfl; rfl; (with_reducible apply St.opr); rfl; rfl; (with_reducible apply St.val); exact Y.assign rfl; rfl; (with_reducible apply St.opr); rfl; rfl; (with_reducible apply St.val); exact Y.assign rfl; rfl; (with_reducible apply St.nil); (with_reducible apply St.then_); (with_reducible apply St.ret); rotate_left))
    refine St.leave (D := []) (M := []) rfl (by (repeat (first | (exact Res.nil) | ((apply Res.tmp); (focus (rfl))) | ((apply Res.agg); (focus (rfl)); (focus ((repeat (first | (exact List.Mem.head _) | (apply List.Mem.tail))); done)); (focus ((repeat (first | (exact GetAt.zero) | (apply GetAt.take) | (apply GetAt.skip))); done))) | ((apply Res.one); (focus (rfl)); (focus ((repeat (first | (exact List.Mem.head _) | (apply List.Mem.tail))); done)); (focus ((repeat (first | (exact GetAt.zero) | (apply GetAt.take) | (apply GetAt.skip))); done)))))) (fun w hw => ?_)
    unfold boS
    rw [if_pos he]
    exact ⟨((_, L1), (v2, L2)), rfl, ⟨hrow, hrow2⟩, hw.sub (by (repeat (first | (exact List.Sublist.refl _) | (exact List.nil_sublist _) | (with_reducible apply List.Sublist.cons_cons) | (with_reducible apply List.Sublist.cons))))⟩
  · (focus ((with_reducible apply St.opr); rfl; rfl; (with_reducible apply St.val); exact Y.move rfl; rfl; (with_reducible apply St.opr); rfl; rfl; (with_reducible apply St.val); exact Y.extractv rfl rfl; rfl; (with_reducible apply St.opr); rfl; rfl; (with_reducible apply St.val); exact Y.extractv rfl rfl; rfl; (with_reducible apply St.opr); rfl; rfl; (with_reducible apply St.val); exact Y.extractv rfl rfl; rfl; (with_reducible apply St.opr); rfl; rfl; (with_reducible apply St.val); exact Y.fieldAddr rfl; rfl; (with_reducible apply St.opr); rfl; rfl; (with_reducible apply St.store); rfl; rfl; rfl; rfl; exact Rep.head; apply SetAt.take; exact SetAt.done; rfl; (with_reducible apply St.opr); rfl; rfl; (with_reducible apply St.val); exact Y.assign rfl; rfl; (with_reducible apply St.opr); rfl; rfl; (with_reducible apply St.val); exact Y.assign rfl; rfl; (with_reducible apply St.nil); (with_reducible apply St.then_); (with_reducible apply St.seq); (with_reducible apply St.region); (with_reducible apply St.opr); rfl; rfl; (with_reducible apply St.val); exact Y.move rfl; rfl; (with_reducible apply St.opr); rfl; rfl; (with_reducible apply St.val); exact Y.neqd rfl rfl; rfl; (with_reducible apply St.dec_t); assumption; (with_reducible apply St.nil); (with_reducible apply St.then_); (with_reducible apply St.cond_true); rfl; (with_reducible apply St.seq); (with_reducible apply St.region); (with_reducible apply St.opr); rfl; rfl; (with_reducible apply St.val); (with_reducible apply Y.build); exact Parts.nil; exact Fills.nil; rfl; (with_reducible apply St.opr); rfl; rfl; (with_reducible apply St.val); exact Y.move rfl; rfl; (with_reducible apply St.opr); rfl; rfl; (with_reducible apply St.store); rfl; rfl; rfl; rfl; exact Rep.head; apply SetAt.take; apply SetAt.take; exact SetAt.done; rfl; (with_reducible apply St.opr); rfl; rfl; (with_reducible apply St.val); exact Y.assign rfl; rfl; (with_reducible apply St.opr); rfl; rfl; (with_reducible apply St.val); exact Y.assign rfl; rfl; (with_reducible apply St.opr); rfl; rfl; (with_reducible apply St.val); exact Y.assign rfl; rfl; (with_reducible apply St.nil); (with_reducible apply St.then_); (with_reducible apply St.ret); (with_reducible apply St.then_ret); rotate_left))
    refine St.leave (D := []) (M := []) rfl (by (repeat (first | (exact Res.nil) | ((apply Res.tmp); (focus (rfl))) | ((apply Res.agg); (focus (rfl)); (focus ((repeat (first | (exact List.Mem.head _) | (apply List.Mem.tail))); done)); (focus ((repeat (first | (exact GetAt.zero) | (apply GetAt.take) | (apply GetAt.skip))); done))) | ((apply Res.one); (focus (rfl)); (focus ((repeat (first | (exact List.Mem.head _) | (apply List.Mem.tail))); done)); (focus ((repeat (first | (exact GetAt.zero) | (apply GetAt.take) | (apply GetAt.skip))); done)))))) (fun w hw => ?_)
    unfold boS
    rw [if_neg he]
    exact ⟨((.slice none 0 0, []), (.slice none 0 0, [])), rfl, ⟨.nil, .nil⟩, hw.sub (by (repeat (first | (exact List.Sublist.refl _) | (exact List.nil_sublist _) | (with_reducible apply List.Sublist.cons_cons) | (with_reducible apply List.Sublist.cons))))⟩
end Go.Proofs.Ytikaonfnaobciaa
