import Derived.Test.YtikaonfnaobciaaC9
import Derived.Test.YtikaonfnaobciaaSxK
namespace Go.Proofs.Ytikaonfnaobciaa
open Go.RowKit
attribute [local irreducible] Y St GSt
set_option maxRecDepth 100000
set_option linter.unusedVariables false
set_option linter.unusedSimpArgs false

structure ChX where
  step : Int
  T : Tab
  c : Nat
  v : Value
  Lr : List (Nat × Obj)
  outs : List Int
  D : List Nat

set_option maxHeartbeats 4000000 in
theorem chain_any {s B : Nat} {p : Option Addr} {cap : Nat} {l : List Ga} {to : Int} {val : Ga → Int} {btr : Int → Int → Bool} {c1 c2 kb : Nat} {fnb : Func} {Fx : List Nat} [FN Try.prog kb fnb] (hl : GsOk l to val)
    (step : Int) (h0 : 0 ≤ step) (hst : step ≤ to) (m0 : Int) (hb0 : bestS l to val btr step = some m0) (T : Tab) (c : Nat) (w : World)
    (hS : Sr w s B p cap l to val btr c1 c2 kb Fx) (hT : TabOk T (fun k => markV (bestS l to val btr k))) (hw : Wd ⟨w, [B], [(B, .map (mkEs T).toArray c)], []⟩ w) :
    Calls Try.prog 51 #[.pointer (some ⟨s, 0, none⟩), .int .i64 step] w fun e w' =>
      ∃ x : Tab × Nat × Value × List (Nat × Obj), e = .returned x.2.2.1 ∧ RowOk 3 1 x.2.2.1 (chainS l to val btr step).length ((chainS l to val btr step).map (.int .i64)) x.2.2.2 ∧ Wd ⟨w, [B], (B, .map (mkEs x.1).toArray x.2.1) :: x.2.2.2, []⟩ w' := by
  have hft : ∀ g ∈ l, g.f < g.t := fun g hg => (hl.ok g hg).2.2.2.2.2.1
  have hsB : s ∉ [B] := fun h => hS.BF (by simp at h; rw [← h]; exact hS.sF)
  obtain ⟨f0, f1, f2, f3, f4, gs, hval, hbet, sF, pF, BF, lt⟩ := hS
  have hS : Sr w s B p cap l to val btr c1 c2 kb Fx := ⟨f0, f1, f2, f3, f4, gs, hval, hbet, sF, pF, BF, lt⟩
  have hto := hl.to1
  refine enter (vs := [.pointer (some ⟨s, 0, none⟩), .int .i64 step]) Try.func51 rfl Try.ntmps51 rfl hw ?_
  (focus ((with_reducible apply St.seq); (with_reducible apply St.region); (with_reducible apply St.opr); rfl; rfl; (with_reducible apply St.box_one); rfl; rfl; rfl; intro b; (with_reducible apply St.opr); rfl; rfl; (with_reducible apply St.box_one); rfl; rfl; rfl; intro b; (with_reducible apply St.opr); rfl; rfl; (with_reducible apply St.val); exact Y.assign rfl; rfl; (with_reducible apply St.nil); (with_reducible apply St.then_); (with_reducible apply St.seq); (with_reducible apply St.region); (with_reducible apply St.opr); rfl; rfl; (with_reducible apply St.alloc_one); rfl; rfl; intro b; (with_reducible apply St.nil); (with_reducible apply St.then_); (with_reducible apply St.seq); (with_reducible apply St.block); rotate_left))
  rename_i b2 b3
  rename Nat => b5
  apply St.loopD (ι := ChX) (M := []) (L1 := []) (E' := [(2, _), (3, _), (5, _)]) (fun _ => []) (fun i => (b5, .cells [i.v].toArray 29 (0, 0)) :: (b3, .cells [.int .i64 i.step].toArray 3 (0, 0)) :: (b2, .cells [.pointer (some ⟨s, 0, none⟩)].toArray 68 (0, 0)) :: (B, .map (mkEs i.T).toArray i.c) :: i.Lr) (fun i => i.D)
    (fun i => 0 ≤ i.step ∧ i.step ≤ to ∧ (∃ m, bestS l to val btr i.step = some m) ∧ TabOk i.T (fun k => markV (bestS l to val btr k)) ∧ RowOk 3 1 i.v i.outs.length (i.outs.map (.int .i64)) i.Lr ∧ i.outs ++ chainS l to val btr i.step = chainS l to val btr step ∧ i.outs.length + step ≤ i.step)
    (fun i => (to - i.step).toNat) ⟨step, T, c, .slice none 0 0, [], [], []⟩
  case hI => exact ⟨h0, hst, ⟨m0, hb0⟩, hT, .nil, by simp, by simp⟩
  case hD => rfl
  case hM => rfl
  case hE => ((try simp only [List.cons_append]); (try simp only [List.nil_append])); (repeat (first | (exact Sub.nil _) | ((with_reducible apply Sub.cons); (focus (rfl)))))
  case hS => simp only [List.append_nil]; exact fun _ h => h
  rintro ⟨st, T, c, v, Lr, outs, Dl⟩ ⟨g0, g1, ⟨m, hm⟩, hT, hrow, hch, hlen⟩
  simp only at g0 g1 hm hT hrow hch hlen
  simp only [List.cons_append, List.nil_append, List.append_nil]
  by_cases hne : st = to
  · subst hne
    (focus ((with_reducible apply St.seq); (with_reducible apply St.seq); (with_reducible apply St.drawA); kernel_rfl; apply Tl.skip; apply Tl.skip; apply Tl.skip; apply Tl.skip; apply Tl.skip; exact Tl.one; decide +kernel; (with_reducible apply GSt.val); rfl; rfl; decide +kernel; exact (fun _ h => h); (with_reducible apply Y.load_one); rfl; apply List.Mem.tail; exact List.Mem.head _; apply GetAt.take; exact GetAt.zero; rfl; (with_reducible apply GSt.val); rfl; rfl; decide +kernel; exact (fun _ h => h); (with_reducible apply Y.load_one); rfl; apply List.Mem.tail; apply List.Mem.tail; exact List.Mem.head _; apply GetAt.take; exact GetAt.zero; rfl; (with_reducible apply GSt.val); rfl; rfl; decide +kernel; exact (fun _ h => h); exact Y.nilCheck rfl; rfl; (with_reducible apply GSt.val); rfl; rfl; decide +kernel; exact (fun _ h => h); exact Y.fieldAddr rfl; rfl; (with_reducible apply GSt.val); rfl; rfl; decide +kernel; exact (fun _ h => h); (with_reducible apply Y.load_ext_one); rfl; assumption; assumption; rfl; (with_reducible apply GSt.done); rfl; decide +kernel; (with_reducible apply St.opr); rfl; rfl; (with_reducible apply St.val); exact Y.neqd rfl rfl; rfl; (with_reducible apply St.dec_f); omega; (with_reducible apply St.nil); (with_reducible apply St.then_); (with_reducible apply St.cond_false); rfl; (with_reducible apply St.exit); (with_reducible apply St.then_exit); (with_reducible apply St.then_exit); (with_reducible apply St.inb_exit); (with_reducible apply St.then_); (with_reducible apply St.seq); (with_reducible apply St.region); (with_reducible apply St.opr); rfl; rfl; (with_reducible apply St.val); (with_reducible apply Y.load_one); rfl; exact List.Mem.head _; apply GetAt.take; exact GetAt.zero; rfl; (with_reducible apply St.opr); rfl; rfl; (with_reducible apply St.val); exact Y.assign rfl; rfl; (with_reducible apply St.nil); (with_reducible apply St.then_); (with_reducible apply St.ret); rotate_left))
    rw [chainS_to, List.append_nil] at hch
    subst hch
    exact St.leave0 rfl (by (repeat (first | (exact Res.nil) | ((apply Res.tmp); (focus (rfl))) | ((apply Res.agg); (focus (rfl)); (focus ((repeat (first | (exact List.Mem.head _) | (apply List.Mem.tail))); done)); (focus ((repeat (first | (exact GetAt.zero) | (apply GetAt.take) | (apply GetAt.skip))); done))) | ((apply Res.one); (focus (rfl)); (focus ((repeat (first | (exact List.Mem.head _) | (apply List.Mem.tail))); done)); (focus ((repeat (first | (exact GetAt.zero) | (apply GetAt.take) | (apply GetAt.skip))); done)))))) (fun w hw => ⟨(T, c, v, Lr), rfl, hrow, (hw.sub (by (repeat (first | (exact List.Sublist.refl _) | (exact List.nil_sublist _) | (with_reducible apply List.Sublist.cons_cons) | (with_reducible apply List.Sublist.cons)))))⟩)
  · obtain ⟨i0, g0', h1, h2, h3, h4⟩ := hit_ex hft hne hm
    have h5 := hitB_iff.1 h3
    have hgt := hft g0' (List.mem_of_getElem? h2)
    have hch' := chainS_eq hft (by omega) hm h1 h2 h3
    (focus ((with_reducible apply St.seq); (with_reducible apply St.seq); (with_reducible apply St.drawA); kernel_rfl; apply Tl.skip; apply Tl.skip; apply Tl.skip; apply Tl.skip; apply Tl.skip; exact Tl.one; decide +kernel; (with_reducible apply GSt.val); rfl; rfl; decide +kernel; exact (fun _ h => h); (with_reducible apply Y.load_one); rfl; apply List.Mem.tail; exact List.Mem.head _; apply GetAt.take; exact GetAt.zero; rfl; (with_reducible apply GSt.val); rfl; rfl; decide +kernel; exact (fun _ h => h); (with_reducible apply Y.load_one); rfl; apply List.Mem.tail; apply List.Mem.tail; exact List.Mem.head _; apply GetAt.take; exact GetAt.zero; rfl; (with_reducible apply GSt.val); rfl; rfl; decide +kernel; exact (fun _ h => h); exact Y.nilCheck rfl; rfl; (with_reducible apply GSt.val); rfl; rfl; decide +kernel; exact (fun _ h => h); exact Y.fieldAddr rfl; rfl; (with_reducible apply GSt.val); rfl; rfl; decide +kernel; exact (fun _ h => h); (with_reducible apply Y.load_ext_one); rfl; assumption; assumption; rfl; (with_reducible apply GSt.done); rfl; decide +kernel; (with_reducible apply St.opr); rfl; rfl; (with_reducible apply St.val); exact Y.neqd rfl rfl; rfl; (with_reducible apply St.dec_t); assumption; (with_reducible apply St.nil); (with_reducible apply St.then_); (with_reducible apply St.cond_true); rfl; (with_reducible apply St.skip); (with_reducible apply St.then_); (with_reducible apply St.block); (with_reducible apply St.seq); (with_reducible apply St.region); (with_reducible apply St.opr); rfl; rfl; (with_reducible apply St.val); (with_reducible apply Y.load_one); rfl; apply List.Mem.tail; apply List.Mem.tail; exact List.Mem.head _; apply GetAt.take; exact GetAt.zero; rfl; (with_reducible apply St.opr); rfl; rfl; (with_reducible apply St.val); (with_reducible apply Y.load_one); rfl; apply List.Mem.tail; exact List.Mem.head _; apply GetAt.take; exact GetAt.zero; rfl; rotate_left))
    (with_reducible apply St.opr); (focus (rfl; done)); (focus (rfl; done))
    with_reducible apply St.callo (ι := Tab × Nat) (Z := fun x => TabOk x.1 (fun k => markV (bestS l to val btr k))) (Lc := [(B, .map (mkEs T).toArray c)]) (Lx := fun x => [(B, .map (mkEs x.1).toArray x.2)]) (vx := fun _ => markV (bestS l to val btr st))
    · rfl
    · infer_instance
    · (repeat (first | (exact Args.nil) | ((apply Args.cons); focus (rfl))))
    · exact Pick.perm (by (repeat (first | (exact Pick.nil) | (exact Pick.rest) | (with_reducible apply Pick.take) | (with_reducible apply Pick.leave))))
    · intro w3 hk3 hwd3
      exact Calls.mono (best_any hl _ st g0 rfl T c w3 (hS.kp hk3 (by intro y hy; simp at hy; subst hy; exact BF)) hT hwd3) (fun e w4 ⟨x, h1, h2, h3⟩ => ⟨x, h1, h2, h3⟩)
    · rfl
    rintro ⟨T1, cc1⟩ hT1
    simp only at hT1
    rw [hm]
    refine St.permL (L' := (B, .map (mkEs T1).toArray cc1) :: (b5, .cells [v].toArray 29 (0, 0)) :: (b3, .cells [.int .i64 st].toArray 3 (0, 0)) :: (b2, .cells [.pointer (some ⟨s, 0, none⟩)].toArray 68 (0, 0)) :: Lr) (by simpa using List.perm_append_comm (l₁ := (b5, .cells [v].toArray 29 (0, 0)) :: (b3, .cells [.int .i64 st].toArray 3 (0, 0)) :: (b2, .cells [.pointer (some ⟨s, 0, none⟩)].toArray 68 (0, 0)) :: Lr) (l₂ := [(B, Obj.map (mkEs T1).toArray cc1)])) ?_
    (focus ((with_reducible apply St.opr); rfl; rfl; (with_reducible apply St.alloc_agg); rfl; intro b; (with_reducible apply St.opr); rfl; rfl; (with_reducible apply St.store); rfl; rfl; rfl; rfl; exact Rep.head; apply SetAt.take; apply SetAt.take; exact SetAt.done; rfl; (with_reducible apply St.nil); (with_reducible apply St.then_); (with_reducible apply St.seq); (with_reducible apply St.drawA); kernel_rfl; apply Tl.skip; apply Tl.skip; apply Tl.skip; apply Tl.skip; apply Tl.skip; exact Tl.one; decide +kernel; (with_reducible apply GSt.val); rfl; rfl; decide +kernel; exact (fun _ h => h); (with_reducible apply Y.load_one); rfl; apply List.Mem.tail; apply List.Mem.tail; apply List.Mem.tail; apply List.Mem.tail; exact List.Mem.head _; apply GetAt.take; exact GetAt.zero; rfl; (with_reducible apply GSt.val); rfl; rfl; decide +kernel; exact (fun _ h => h); exact Y.nilCheck rfl; rfl; (with_reducible apply GSt.val); rfl; rfl; decide +kernel; exact (fun _ h => h); exact Y.fieldAddr rfl; rfl; (with_reducible apply GSt.val); rfl; rfl; decide +kernel; exact (fun _ h => h); (with_reducible apply Y.load_ext_one); rfl; assumption; assumption; rfl; (with_reducible apply GSt.val); rfl; rfl; decide +kernel; exact (fun _ h => h); (with_reducible apply Y.load_one); rfl; apply List.Mem.tail; apply List.Mem.tail; apply List.Mem.tail; exact List.Mem.head _; apply GetAt.take; exact GetAt.zero; rfl; (with_reducible apply GSt.done); rfl; decide +kernel; rotate_left))
    rename Nat => b6
    (with_reducible apply St.opr); (focus (rfl; done)); (focus (rfl; done))
    with_reducible apply St.calln (ι := Nat × Nat) (Z := fun _ => True) (Lx := fun x => [(x.2, .cells [.int .i64 st].toArray 3 (0, 0)), (x.1, .cells [.slice p l.length cap].toArray 22 (0, 0))]) (vx := fun x => .func (.func 76) #[] #[.pointer (some ⟨x.1, 0, none⟩), .pointer (some ⟨x.2, 0, none⟩)])
    · rfl
    · infer_instance
    · (repeat (first | (exact Args.nil) | ((apply Args.cons); focus (rfl))))
    · exact fun w' _ _ => from_any p l.length cap st w'
    · rfl
    rintro ⟨k1, k2⟩ -
    simp only [List.cons_append, List.nil_append]
    (focus ((with_reducible apply St.nil); (with_reducible apply St.then_); (with_reducible apply St.block); rotate_left))
    with_reducible apply St.rangew (ι := Tab × Nat × Value × List (Nat × Obj)) (Z := fun y => TabOk y.1 (fun k => markV (bestS l to val btr k)) ∧ RowOk 3 1 y.2.2.1 (outs.length + 1) (outs.map (.int .i64) ++ [.int .i64 i0]) y.2.2.2) (Lx := fun y => (k2, .cells [.int .i64 st].toArray 3 (0, 0)) :: (k1, .cells [.slice p l.length cap].toArray 22 (0, 0)) :: (b6, .cells [.int .i64 m, .bool true].toArray 74 (0, 0)) :: (b2, .cells [.pointer (some ⟨s, 0, none⟩)].toArray 68 (0, 0)) :: (B, .map (mkEs y.1).toArray y.2.1) :: (b5, .cells [y.2.2.1].toArray 29 (0, 0)) :: (b3, .cells [.int .i64 g0'.t].toArray 3 (0, 0)) :: y.2.2.2) (px := fun _ => some (.exit 2))
    · rfl
    · infer_instance
    · intro rec bb lp w1 hr1 hr2 hr3 hr4 hr5 hts hw1
      have hpm := Pick.perm (L := _) (Lc := (lp, .loop rec) :: (B, .map (mkEs T1).toArray cc1) :: (b5, .cells [v].toArray 29 (0, 0)) :: (b3, .cells [.int .i64 st].toArray 3 (0, 0)) :: Lr) (A := [(k2, .cells [.int .i64 st].toArray 3 (0, 0)), (k1, .cells [.slice p l.length cap].toArray 22 (0, 0)), (b6, .cells [.int .i64 m, .bool true].toArray 74 (0, 0)), (b2, .cells [.pointer (some ⟨s, 0, none⟩)].toArray 68 (0, 0))]) (.take (.leave (.leave (.leave (.take (.take (.take (.leave Pick.all))))))))
      have hw2 := hw1.perm hpm
      have hS1 := hS.kp hw1.kp (by intro y hy; simp at hy; subst hy; exact BF)
      obtain ⟨X, hX⟩ : ∃ X : List Nat, X = lp :: B :: b5 :: b3 :: Lr.map (·.1) := ⟨_, rfl⟩
      have hXF : ∀ y ∈ X, y ∉ Fx := fun y hy hF => by
        rw [hX] at hy
        obtain ⟨o, ho⟩ := mem_keys (L := (lp, .loop rec) :: (B, .map (mkEs T1).toArray cc1) :: (b5, .cells [v].toArray 29 (0, 0)) :: (b3, .cells [.int .i64 st].toArray 3 (0, 0)) :: Lr) hy
        have := hw2.new (y, o) (List.mem_append_right _ ho) (lt _ hF)
        simp only [List.mem_cons, List.not_mem_nil, or_false] at this
        exact BF (this ▸ hF)
      have hen : Wd ⟨w1, X, (lp, .loop rec) :: (B, .map (mkEs T1).toArray cc1) :: (b5, .cells [v].toArray 29 (0, 0)) :: (b3, .cells [.int .i64 st].toArray 3 (0, 0)) :: Lr, []⟩ w1 := by rw [hX]; exact hw2.enter
      have hk1 : Cs w1 k1 0 [.slice p l.length cap] := hw1.cs (b := k1) (l := [.slice p l.length cap]) (T := 22) (fr := (0, 0)) (by (repeat (first | (exact List.Mem.head _) | (apply List.Mem.tail)))) (by (repeat (first | (exact GetAt.zero) | (apply GetAt.take) | (apply GetAt.skip))))
      have hk2 : Cs w1 k2 0 [.int .i64 st] := hw1.cs (b := k2) (l := [.int .i64 st]) (T := 3) (fr := (0, 0)) (by (repeat (first | (exact List.Mem.head _) | (apply List.Mem.tail)))) (by (repeat (first | (exact GetAt.zero) | (apply GetAt.take) | (apply GetAt.skip))))
      have hk6 : Cs w1 b6 0 [.int .i64 m] := hw1.cs (b := b6) (l := [.int .i64 m, .bool true]) (T := 74) (fr := (0, 0)) (by (repeat (first | (exact List.Mem.head _) | (apply List.Mem.tail)))) (by (repeat (first | (exact GetAt.zero) | (apply GetAt.take) | (apply GetAt.skip))))
      have hkb2 : Cs w1 b2 0 [.pointer (some ⟨s, 0, none⟩)] := hw1.cs (b := b2) (l := [.pointer (some ⟨s, 0, none⟩)]) (T := 68) (fr := (0, 0)) (by (repeat (first | (exact List.Mem.head _) | (apply List.Mem.tail)))) (by (repeat (first | (exact GetAt.zero) | (apply GetAt.take) | (apply GetAt.skip))))
      have hx1 : k1 ∉ X := hX ▸ hw2.sep (o := .cells [.slice p l.length cap].toArray 22 (0, 0)) (by (repeat (first | (exact List.Mem.head _) | (apply List.Mem.tail))))
      have hx2 : k2 ∉ X := hX ▸ hw2.sep (o := .cells [.int .i64 st].toArray 3 (0, 0)) (by (repeat (first | (exact List.Mem.head _) | (apply List.Mem.tail))))
      have hx6 : b6 ∉ X := hX ▸ hw2.sep (o := .cells [.int .i64 m, .bool true].toArray 74 (0, 0)) (by (repeat (first | (exact List.Mem.head _) | (apply List.Mem.tail))))
      have hxb2 : b2 ∉ X := hX ▸ hw2.sep (o := .cells [.pointer (some ⟨s, 0, none⟩)].toArray 68 (0, 0)) (by (repeat (first | (exact List.Mem.head _) | (apply List.Mem.tail))))
      have hlen2 := hl.len
      refine Calls.mono (from2_any (ι := Tab × Nat) (κ := Tab × Nat × Value × List (Nat × Obj)) (fun k x => TabOk x.1 (fun k => markV (bestS l to val btr k)) ∧ ∀ j, j < k → ∀ g, l[j]? = some g → hitB l to val btr st m g = false) (fun y => TabOk y.1 (fun k => markV (bestS l to val btr k)) ∧ RowOk 3 1 y.2.2.1 (outs.length + 1) (outs.map (.int .i64) ++ [.int .i64 i0]) y.2.2.2)
        (fun x => (lp, .loop rec) :: (B, .map (mkEs x.1).toArray x.2) :: (b5, .cells [v].toArray 29 (0, 0)) :: (b3, .cells [.int .i64 st].toArray 3 (0, 0)) :: Lr) (fun y => (lp, .loop { rec with state := .done, pending := some (.exit 2) }) :: (B, .map (mkEs y.1).toArray y.2.1) :: (b5, .cells [y.2.2.1].toArray 29 (0, 0)) :: (b3, .cells [.int .i64 g0'.t].toArray 3 (0, 0)) :: y.2.2.2)
        X l p cap st k1 k2 lp w1 (T1, cc1) (by omega) ⟨hT1, fun j hj => by omega⟩ (fun _ => hX.symm) hen hk1 hk2 hS1.gs hx1 hx2 (fun a ha hx => hXF _ hx (hS1.pF a ha)) ?_ ?_) ?_
      · rintro k g ⟨T2, cc2⟩ w' hg hgf ⟨hT2, hno⟩ hk hwd
        simp only at hT2 hno hwd
        have hgm : g ∈ l := List.mem_of_getElem? hg
        have hS2 := hS1.kp hk hXF
        have hbt := hkb2.kp hk hxb2
        have hb6 := hk6.kp hk hx6
        have hsX : s ∉ X := fun h => hXF s h sF
        have hgt2 := hft g hgm
        have hv := hl.vs g hgm
        have hstep : hitB l to val btr st m g = false → ∀ j, j < k + 1 → ∀ x, l[j]? = some x → hitB l to val btr st m x = false := fun hh j hj x hx => by
          rcases Nat.lt_or_ge j k with h | h
          · exact hno j h x hx
          · have : j = k := by omega
            subst this
            rw [hg] at hx; injection hx with hx; subst hx; exact hh
        have hki : hitB l to val btr st m g = true → k = i0 ∧ g = g0' := fun hh => by
          have : k = i0 := by
            rcases Nat.lt_trichotomy k i0 with h | h | h
            · rw [h4 k h g hg] at hh; cases hh
            · exact h
            · rw [hno i0 h g0' h2] at h3; cases h3
          subst this
          rw [hg] at h2; injection h2 with h2
          exact ⟨rfl, h2⟩
        clear hw1 hw2 hen hk1 hk2 hk6 hkb2 hx1 hx2 hpm hS hT f0 f1 f2 f3 f4 gs hval hbet hno
        obtain ⟨f0, f1, f2, f3, f4, gs, hval, hbet, -, -, -, -⟩ := hS2
        have hS2 := hS1.kp hk hXF
        refine yld_of (rec := rec) (ps := [25, 26]) (hwd.own _ (.head _)) hr3 rfl rfl hts hwd ?_
        rw [hr4, hr5]
        simp only [parE]
        (focus ((with_reducible apply St.seq); (with_reducible apply St.region); (with_reducible apply St.opr); rfl; rfl; (with_reducible apply St.val); exact Y.assign rfl; rfl; (with_reducible apply St.nil); (with_reducible apply St.then_); (with_reducible apply St.region); (with_reducible apply St.opr); rfl; rfl; (with_reducible apply St.alloc_agg); rfl; intro b; (with_reducible apply St.opr); rfl; rfl; (with_reducible apply St.store); rfl; rfl; rfl; rfl; exact Rep.head; apply SetAt.take; apply SetAt.take; apply SetAt.take; apply SetAt.take; apply SetAt.take; apply SetAt.take; apply SetAt.take; apply SetAt.take; apply SetAt.take; apply SetAt.take; exact SetAt.done; rfl; (with_reducible apply St.nil); (with_reducible apply St.then_); rotate_left))
        rename Nat => b8
        refine St.begin hr1 (by (repeat (first | (exact Rep.head) | (apply Rep.tail)))) ?_
        by_cases htt : to < g.t
        · have hh : hitB l to val btr st m g = false := by
            cases hq : hitB l to val btr st m g with
            | false => rfl
            | true => have := (hitB_iff.1 hq).2.1; omega
          (focus ((with_reducible apply St.block); (with_reducible apply St.seq); (with_reducible apply St.seq); (with_reducible apply St.drawA); kernel_rfl; apply Tl.skip; apply Tl.skip; apply Tl.skip; apply Tl.skip; apply Tl.skip; apply Tl.skip; exact Tl.one; decide +kernel; (with_reducible apply GSt.val); rfl; rfl; decide +kernel; exact (fun _ h => h); exact Y.fieldAddr rfl; rfl; (with_reducible apply GSt.val); rfl; rfl; decide +kernel; exact (fun _ h => h); (with_reducible apply Y.load_one); rfl; exact List.Mem.head _; apply GetAt.skip; apply GetAt.take; exact GetAt.zero; rfl; (with_reducible apply GSt.val); rfl; rfl; decide +kernel; exact (fun _ h => h); (with_reducible apply Y.load_ext_one); rfl; assumption; assumption; rfl; (with_reducible apply GSt.val); rfl; rfl; decide +kernel; exact (fun _ h => h); exact Y.nilCheck rfl; rfl; (with_reducible apply GSt.val); rfl; rfl; decide +kernel; exact (fun _ h => h); exact Y.fieldAddr rfl; rfl; (with_reducible apply GSt.val); rfl; rfl; decide +kernel; exact (fun _ h => h); (with_reducible apply Y.load_ext_one); rfl; assumption; assumption; rfl; (with_reducible apply GSt.done); rfl; decide +kernel; (with_reducible apply St.opr); rfl; rfl; (with_reducible apply St.val); exact Y.gtr rfl rfl; rfl; (with_reducible apply St.dec_t); assumption; (with_reducible apply St.nil); (with_reducible apply St.then_); (with_reducible apply St.cond_true); rfl; (with_reducible apply St.exit); (with_reducible apply St.then_exit); (with_reducible apply St.inb_exit); rotate_left))
          refine St.round_end (by (repeat (first | (exact Rep.head) | (apply Rep.tail)))) (fun w2 hw2' => ⟨_, rfl, .inl ⟨(T2, cc2), rfl, ⟨hT2, hstep hh⟩, ?_⟩⟩)
          rw [loop_eta2 hr1 hr2] at hw2'; exact hw2'.sub (by (repeat (first | (exact List.Sublist.refl _) | (exact List.nil_sublist _) | (with_reducible apply List.Sublist.cons_cons) | (with_reducible apply List.Sublist.cons))))
        · (focus ((with_reducible apply St.block); (with_reducible apply St.seq); (with_reducible apply St.seq); (with_reducible apply St.drawA); kernel_rfl; apply Tl.skip; apply Tl.skip; apply Tl.skip; apply Tl.skip; apply Tl.skip; apply Tl.skip; exact Tl.one; decide +kernel; (with_reducible apply GSt.val); rfl; rfl; decide +kernel; exact (fun _ h => h); exact Y.fieldAddr rfl; rfl; (with_reducible apply GSt.val); rfl; rfl; decide +kernel; exact (fun _ h => h); (with_reducible apply Y.load_one); rfl; exact List.Mem.head _; apply GetAt.skip; apply GetAt.take; exact GetAt.zero; rfl; (with_reducible apply GSt.val); rfl; rfl; decide +kernel; exact (fun _ h => h); (with_reducible apply Y.load_ext_one); rfl; assumption; assumption; rfl; (with_reducible apply GSt.val); rfl; rfl; decide +kernel; exact (fun _ h => h); exact Y.nilCheck rfl; rfl; (with_reducible apply GSt.val); rfl; rfl; decide +kernel; exact (fun _ h => h); exact Y.fieldAddr rfl; rfl; (with_reducible apply GSt.val); rfl; rfl; decide +kernel; exact (fun _ h => h); (with_reducible apply Y.load_ext_one); rfl; assumption; assumption; rfl; (with_reducible apply GSt.done); rfl; decide +kernel; (with_reducible apply St.opr); rfl; rfl; (with_reducible apply St.val); exact Y.gtr rfl rfl; rfl; (with_reducible apply St.dec_f); assumption; (with_reducible apply St.nil); (with_reducible apply St.then_); (with_reducible apply St.cond_false); rfl; (with_reducible apply St.skip); (with_reducible apply St.then_); (with_reducible apply St.seq); (with_reducible apply St.region); (with_reducible apply St.opr); rfl; rfl; (with_reducible apply St.val); (with_reducible apply Y.load_ext_one); rfl; assumption; assumption; rfl; (with_reducible apply St.opr); rfl; rfl; (with_reducible apply St.val); exact Y.fieldAddr rfl; rfl; (with_reducible apply St.opr); rfl; rfl; (with_reducible apply St.val); (with_reducible apply Y.load_one); rfl; exact List.Mem.head _; apply GetAt.skip; apply GetAt.take; exact GetAt.zero; rfl; rotate_left))
          (with_reducible apply St.opr); (focus (rfl; done)); (focus (rfl; done))
          with_reducible apply St.callo (ι := Tab × Nat) (Z := fun x => TabOk x.1 (fun k => markV (bestS l to val btr k))) (Lc := [(B, .map (mkEs T2).toArray cc2)]) (Lx := fun x => [(B, .map (mkEs x.1).toArray x.2)]) (vx := fun _ => markV (bestS l to val btr g.t))
          · rfl
          · infer_instance
          · (repeat (first | (exact Args.nil) | ((apply Args.cons); focus (rfl))))
          · exact Pick.perm (by (repeat (first | (exact Pick.nil) | (exact Pick.rest) | (with_reducible apply Pick.take) | (with_reducible apply Pick.leave))))
          · intro w3 hk3 hwd3
            exact Calls.mono (best_any hl _ g.t (by omega) rfl T2 cc2 w3 (hS2.kp hk3 hXF) hT2 hwd3) (fun e w4 ⟨x, h1, h2, h3⟩ => ⟨x, h1, h2, h3⟩)
          · rfl
          rintro ⟨T3, cc3⟩ hT3
          simp only at hT3
          refine St.permL (L' := (B, .map (mkEs T3).toArray cc3) :: (b8, .cells g.vs.toArray 26 (0, 0)) :: (lp, .loop { rec with state := .busy }) :: (b5, .cells [v].toArray 29 (0, 0)) :: (b3, .cells [.int .i64 st].toArray 3 (0, 0)) :: Lr) (by simpa using List.perm_append_comm (l₁ := (b8, .cells g.vs.toArray 26 (0, 0)) :: (lp, .loop { rec with state := .busy }) :: (b5, .cells [v].toArray 29 (0, 0)) :: (b3, .cells [.int .i64 st].toArray 3 (0, 0)) :: Lr) (l₂ := [(B, Obj.map (mkEs T3).toArray cc3)])) ?_
          cases hb : bestS l to val btr g.t with
          | none =>
            have hh : hitB l to val btr st m g = false := by
              cases hq : hitB l to val btr st m g with
              | false => rfl
              | true => obtain ⟨_, _, s', hs', _⟩ := hitB_iff.1 hq; rw [hb] at hs'; cases hs'
            (focus ((with_reducible apply St.opr); rfl; rfl; (with_reducible apply St.alloc_agg); rfl; intro b; (with_reducible apply St.opr); rfl; rfl; (with_reducible apply St.store); rfl; rfl; rfl; rfl; exact Rep.head; apply SetAt.take; apply SetAt.take; exact SetAt.done; rfl; (with_reducible apply St.nil); (with_reducible apply St.then_); (with_reducible apply St.seq); (with_reducible apply St.drawA); kernel_rfl; apply Tl.skip; apply Tl.skip; apply Tl.skip; apply Tl.skip; apply Tl.skip; apply Tl.skip; apply Tl.skip; apply Tl.skip; apply Tl.skip; apply Tl.skip; apply Tl.skip; apply Tl.skip; apply Tl.skip; apply Tl.skip; apply Tl.skip; exact Tl.one; decide +kernel; (with_reducible apply GSt.val); rfl; rfl; decide +kernel; exact (fun _ h => h); exact Y.fieldAddr rfl; rfl; (with_reducible apply GSt.val); rfl; rfl; decide +kernel; exact (fun _ h => h); (with_reducible apply Y.load_one); rfl; exact List.Mem.head _; apply GetAt.skip; apply GetAt.take; exact GetAt.zero; rfl; (with_reducible apply GSt.val); rfl; rfl; decide +kernel; exact (fun _ h => h); exact Y.move rfl; rfl; (with_reducible apply GSt.skipG); rfl; rfl; rfl; rfl; rfl; decide +kernel; exact (fun _ h => h); rfl; (with_reducible apply GSt.skipG); rfl; rfl; rfl; rfl; rfl; decide +kernel; exact (fun _ h => h); rfl; (with_reducible apply GSt.skipG); rfl; rfl; rfl; rfl; rfl; decide +kernel; exact (fun _ h => h); rfl; (with_reducible apply GSt.skipG); rfl; rfl; rfl; rfl; rfl; decide +kernel; exact (fun _ h => h); rfl; (with_reducible apply GSt.skipG); rfl; rfl; rfl; rfl; rfl; decide +kernel; exact (fun _ h => h); rfl; (with_reducible apply GSt.skipG); rfl; rfl; rfl; rfl; rfl; decide +kernel; exact (fun _ h => h); rfl; (with_reducible apply GSt.skipG); rfl; rfl; rfl; rfl; rfl; decide +kernel; exact (fun _ h => h); rfl; (with_reducible apply GSt.skipG); rfl; rfl; rfl; rfl; rfl; decide +kernel; exact (fun _ h => h); rfl; (with_reducible apply GSt.skipG); rfl; rfl; rfl; rfl; rfl; decide +kernel; exact (fun _ h => h); rfl; (with_reducible apply GSt.skipG); rfl; rfl; rfl; rfl; rfl; decide +kernel; exact (fun _ h => h); rfl; (with_reducible apply GSt.skipG); rfl; rfl; rfl; rfl; rfl; decide +kernel; exact (fun _ h => h); rfl; (with_reducible apply GSt.skipG); rfl; rfl; rfl; rfl; rfl; decide +kernel; exact (fun _ h => h); rfl; (with_reducible apply GSt.done); rfl; decide +kernel; (with_reducible apply St.opr); rfl; rfl; (with_reducible apply St.val); exact Y.pick_false rfl rfl; rfl; (with_reducible apply St.nil); (with_reducible apply St.then_); (with_reducible apply St.cond_false); rfl; (with_reducible apply St.skip); (with_reducible apply St.inb); rotate_left))
            refine St.round_end (by (repeat (first | (exact Rep.head) | (apply Rep.tail)))) (fun w2 hw2' => ⟨_, rfl, .inl ⟨(T3, cc3), rfl, ⟨hT3, hstep hh⟩, ?_⟩⟩)
            rw [loop_eta2 hr1 hr2] at hw2'
            refine Wd.perm (Wd.sub hw2' ?_) (List.Perm.swap _ _ _)
            (repeat (first | (exact List.Sublist.refl _) | (exact List.nil_sublist _) | (with_reducible apply List.Sublist.cons_cons) | (with_reducible apply List.Sublist.cons)))
          | some sb =>
            have hsm := bestS_small hl.vs (by omega : 0 ≤ g.t) hl.to1 hb
            by_cases hmm : val g + sb = m
            · obtain ⟨hk0, hg0⟩ := hki (hitB_iff.2 ⟨hgf, by omega, sb, hb, hmm⟩)
              subst hk0
              subst hg0
              (focus ((with_reducible apply St.opr); rfl; rfl; (with_reducible apply St.alloc_agg); rfl; intro b; (with_reducible apply St.opr); rfl; rfl; (with_reducible apply St.store); rfl; rfl; rfl; rfl; exact Rep.head; apply SetAt.take; apply SetAt.take; exact SetAt.done; rfl; (with_reducible apply St.nil); (with_reducible apply St.then_); (with_reducible apply St.seq); (with_reducible apply St.drawA); kernel_rfl; apply Tl.skip; apply Tl.skip; apply Tl.skip; apply Tl.skip; apply Tl.skip; apply Tl.skip; apply Tl.skip; apply Tl.skip; apply Tl.skip; apply Tl.skip; apply Tl.skip; apply Tl.skip; apply Tl.skip; apply Tl.skip; apply Tl.skip; exact Tl.one; decide +kernel; (with_reducible apply GSt.val); rfl; rfl; decide +kernel; exact (fun _ h => h); exact Y.fieldAddr rfl; rfl; (with_reducible apply GSt.val); rfl; rfl; decide +kernel; exact (fun _ h => h); (with_reducible apply Y.load_one); rfl; exact List.Mem.head _; apply GetAt.skip; apply GetAt.take; exact GetAt.zero; rfl; (with_reducible apply GSt.val); rfl; rfl; decide +kernel; exact (fun _ h => h); exact Y.move rfl; rfl; (with_reducible apply GSt.valG); rfl; rfl; rfl; rfl; rfl; decide +kernel; exact (fun _ h => h); (with_reducible apply Y.load_ext_one); rfl; assumption; assumption; rfl; (with_reducible apply GSt.valG); rfl; rfl; rfl; rfl; rfl; decide +kernel; exact (fun _ h => h); exact Y.nilCheck rfl; rfl; (with_reducible apply GSt.valG); rfl; rfl; rfl; rfl; rfl; decide +kernel; exact (fun _ h => h); exact Y.fieldAddr rfl; rfl; (with_reducible apply GSt.valG); rfl; rfl; rfl; rfl; rfl; decide +kernel; exact (fun _ h => h); (with_reducible apply Y.load_ext_one); rfl; assumption; assumption; rfl; (with_reducible apply GSt.valG); rfl; rfl; rfl; rfl; rfl; decide +kernel; exact (fun _ h => h); (with_reducible apply Y.load_agg); rfl; apply List.Mem.tail; apply List.Mem.tail; exact List.Mem.head _; apply GetAt.take; apply GetAt.take; apply GetAt.take; apply GetAt.take; apply GetAt.take; apply GetAt.take; apply GetAt.take; apply GetAt.take; apply GetAt.take; apply GetAt.take; exact GetAt.zero; rfl; (with_reducible apply GSt.callvG); rfl; rfl; rfl; rfl; rfl; decide +kernel; exact (fun _ h => h); rfl; infer_instance; apply Args.cons; rfl; exact Args.nil; exact fun w hw => hval _ w hw.kp hXF _ hgm; rfl; (with_reducible apply GSt.valG); rfl; rfl; rfl; rfl; rfl; decide +kernel; exact (fun _ h => h); exact Y.fieldAddr rfl; rfl; (with_reducible apply GSt.valG); rfl; rfl; rfl; rfl; rfl; decide +kernel; exact (fun _ h => h); (with_reducible apply Y.load_one); rfl; exact List.Mem.head _; apply GetAt.take; exact GetAt.zero; rfl; (with_reducible apply GSt.valG); rfl; rfl; rfl; rfl; rfl; decide +kernel; exact (fun _ h => h); exact Y.add_ok rfl rfl (by omega); rfl; (with_reducible apply GSt.valG); rfl; rfl; rfl; rfl; rfl; decide +kernel; exact (fun _ h => h); exact Y.fieldAddr rfl; rfl; (with_reducible apply GSt.valG); rfl; rfl; rfl; rfl; rfl; decide +kernel; exact (fun _ h => h); (with_reducible apply Y.load_ext_one); rfl; assumption; assumption; rfl; (with_reducible apply GSt.valG); rfl; rfl; rfl; rfl; rfl; decide +kernel; exact (fun _ h => h); exact Y.eql_int rfl rfl; rfl; (with_reducible apply GSt.dec_t); assumption; (with_reducible apply GSt.done); rfl; decide +kernel; (with_reducible apply St.opr); rfl; rfl; (with_reducible apply St.val); exact Y.pick_true rfl rfl; rfl; (with_reducible apply St.nil); (with_reducible apply St.then_); (with_reducible apply St.cond_true); rfl; (with_reducible apply St.seq); (with_reducible apply St.region); (with_reducible apply St.opr); rfl; rfl; (with_reducible apply St.val); (with_reducible apply Y.load_one); rfl; apply List.Mem.tail; apply List.Mem.tail; apply List.Mem.tail; apply List.Mem.tail; exact List.Mem.head _; apply GetAt.take; exact GetAt.zero; rfl; (with_reducible apply St.opr); rfl; rfl; (with_reducible apply St.val); exact Y.move rfl; rfl; (with_reducible apply St.opr); rfl; rfl; (with_reducible apply St.buildSlicev); rfl; rfl; rfl; rfl; apply Parts.cons; rfl; exact Parts.nil; apply Fills.cons; rfl; rfl; rfl; apply SetAt.take; exact SetAt.done; exact Fills.nil; rfl; intro b; rotate_left))
              rename Nat => bs
              (with_reducible apply St.opr); (focus (rfl; done)); (focus (rfl; done))
              with_reducible apply St.append (T := 0) (Lr := Lr) (n := outs.length) (m := 1) (xs := outs.map (.int .i64)) (news := [.int .i64 k]) (size := 1) (bytes := 8) (A := [(bs, .cells [.int .i64 k].toArray 3 (0, 0)), (b, .cells [.int .i64 sb, .bool true].toArray 74 (0, 0)), (B, .map (mkEs T3).toArray cc3), (b8, .cells g.vs.toArray 26 (0, 0)), (lp, .loop { rec with state := .busy }), (b5, .cells [v].toArray 29 (0, 0)), (b3, .cells [.int .i64 st].toArray 3 (0, 0))])
              · rfl
              · rfl
              · exact hrow
              · exact List.Perm.refl _
              · rfl
              · omega
              · rfl
              · intro w4 hw4 j u hj
                have := (hw4.cs (b := bs) (l := [.int .i64 k]) (T := 3) (fr := (0, 0)) (o := 0) (k := 1) (vs := [.int .i64 k]) (by (repeat (first | (exact List.Mem.head _) | (apply List.Mem.tail)))) (by (repeat (first | (exact GetAt.zero) | (apply GetAt.take) | (apply GetAt.skip))))) j u hj
                rw [Addr.add_none]; exact this
              · intro u hu; simp at hu; subst hu; rfl
              · omega
              · omega
              · rfl
              intro v2 Lr2 hrow2
              obtain ⟨p2, cap2, hv2⟩ := hrow2.form
              subst hv2
              simp only [List.cons_append, List.nil_append]
              (focus ((with_reducible apply St.opr); rfl; rfl; (with_reducible apply St.store); rfl; rfl; rfl; rfl; apply Rep.tail; apply Rep.tail; apply Rep.tail; apply Rep.tail; apply Rep.tail; exact Rep.head; apply SetAt.take; exact SetAt.done; rfl; (with_reducible apply St.nil); (with_reducible apply St.then_); (with_reducible apply St.seq); (with_reducible apply St.region); (with_reducible apply St.opr); rfl; rfl; (with_reducible apply St.val); exact Y.fieldAddr rfl; rfl; (with_reducible apply St.opr); rfl; rfl; (with_reducible apply St.val); (with_reducible apply Y.load_one); rfl; apply List.Mem.tail; apply List.Mem.tail; apply List.Mem.tail; exact List.Mem.head _; apply GetAt.skip; apply GetAt.take; exact GetAt.zero; rfl; (with_reducible apply St.opr); rfl; rfl; (with_reducible apply St.store); rfl; rfl; rfl; rfl; apply Rep.tail; apply Rep.tail; apply Rep.tail; apply Rep.tail; apply Rep.tail; apply Rep.tail; exact Rep.head; apply SetAt.take; exact SetAt.done; rfl; (with_reducible apply St.nil); (with_reducible apply St.then_); (with_reducible apply St.exit); (with_reducible apply St.inb_other); rfl; rotate_left))
              refine St.round_exit (by (repeat (first | (exact Rep.head) | (apply Rep.tail)))) (fun w2 hw2' => ⟨_, rfl, .inr ⟨(T3, cc3, _, Lr2), rfl, ⟨hT3, hrow2⟩, ?_⟩⟩)
              rw [← hr4, ← hr5]
              refine Wd.perm (Wd.sub hw2' ?_) (List.Perm.swap _ _ _)
              (repeat (first | (exact List.Sublist.refl _) | (exact List.nil_sublist _) | (with_reducible apply List.Sublist.cons_cons) | (with_reducible apply List.Sublist.cons)))
            · have hh : hitB l to val btr st m g = false := by
                cases hq : hitB l to val btr st m g with
                | false => rfl
                | true => obtain ⟨_, _, s', hs', hs2⟩ := hitB_iff.1 hq; rw [hb] at hs'; injection hs' with hs'; omega
              (focus ((with_reducible apply St.opr); rfl; rfl; (with_reducible apply St.alloc_agg); rfl; intro b; (with_reducible apply St.opr); rfl; rfl; (with_reducible apply St.store); rfl; rfl; rfl; rfl; exact Rep.head; apply SetAt.take; apply SetAt.take; exact SetAt.done; rfl; (with_reducible apply St.nil); (with_reducible apply St.then_); (with_reducible apply St.seq); (with_reducible apply St.drawA); kernel_rfl; apply Tl.skip; apply Tl.skip; apply Tl.skip; apply Tl.skip; apply Tl.skip; apply Tl.skip; apply Tl.skip; apply Tl.skip; apply Tl.skip; apply Tl.skip; apply Tl.skip; apply Tl.skip; apply Tl.skip; apply Tl.skip; apply Tl.skip; exact Tl.one; decide +kernel; (with_reducible apply GSt.val); rfl; rfl; decide +kernel; exact (fun _ h => h); exact Y.fieldAddr rfl; rfl; (with_reducible apply GSt.val); rfl; rfl; decide +kernel; exact (fun _ h => h); (with_reducible apply Y.load_one); rfl; exact List.Mem.head _; apply GetAt.skip; apply GetAt.take; exact GetAt.zero; rfl; (with_reducible apply GSt.val); rfl; rfl; decide +kernel; exact (fun _ h => h); exact Y.move rfl; rfl; (with_reducible apply GSt.valG); rfl; rfl; rfl; rfl; rfl; decide +kernel; exact (fun _ h => h); (with_reducible apply Y.load_ext_one); rfl; assumption; assumption; rfl; (with_reducible apply GSt.valG); rfl; rfl; rfl; rfl; rfl; decide +kernel; exact (fun _ h => h); exact Y.nilCheck rfl; rfl; (with_reducible apply GSt.valG); rfl; rfl; rfl; rfl; rfl; decide +kernel; exact (fun _ h => h); exact Y.fieldAddr rfl; rfl; (with_reducible apply GSt.valG); rfl; rfl; rfl; rfl; rfl; decide +kernel; exact (fun _ h => h); (with_reducible apply Y.load_ext_one); rfl; assumption; assumption; rfl; (with_reducible apply GSt.valG); rfl; rfl; rfl; rfl; rfl; decide +kernel; exact (fun _ h => h); (with_reducible apply Y.load_agg); rfl; apply List.Mem.tail; apply List.Mem.tail; exact List.Mem.head _; apply GetAt.take; apply GetAt.take; apply GetAt.take; apply GetAt.take; apply GetAt.take; apply GetAt.take; apply GetAt.take; apply GetAt.take; apply GetAt.take; apply GetAt.take; exact GetAt.zero; rfl; (with_reducible apply GSt.callvG); rfl; rfl; rfl; rfl; rfl; decide +kernel; exact (fun _ h => h); rfl; infer_instance; apply Args.cons; rfl; exact Args.nil; exact fun w hw => hval _ w hw.kp hXF _ hgm; rfl; (with_reducible apply GSt.valG); rfl; rfl; rfl; rfl; rfl; decide +kernel; exact (fun _ h => h); exact Y.fieldAddr rfl; rfl; (with_reducible apply GSt.valG); rfl; rfl; rfl; rfl; rfl; decide +kernel; exact (fun _ h => h); (with_reducible apply Y.load_one); rfl; exact List.Mem.head _; apply GetAt.take; exact GetAt.zero; rfl; (with_reducible apply GSt.valG); rfl; rfl; rfl; rfl; rfl; decide +kernel; exact (fun _ h => h); exact Y.add_ok rfl rfl (by omega); rfl; (with_reducible apply GSt.valG); rfl; rfl; rfl; rfl; rfl; decide +kernel; exact (fun _ h => h); exact Y.fieldAddr rfl; rfl; (with_reducible apply GSt.valG); rfl; rfl; rfl; rfl; rfl; decide +kernel; exact (fun _ h => h); (with_reducible apply Y.load_ext_one); rfl; assumption; assumption; rfl; (with_reducible apply GSt.valG); rfl; rfl; rfl; rfl; rfl; decide +kernel; exact (fun _ h => h); exact Y.eql_int rfl rfl; rfl; (with_reducible apply GSt.dec_f); assumption; (with_reducible apply GSt.done); rfl; decide +kernel; (with_reducible apply St.opr); rfl; rfl; (with_reducible apply St.val); exact Y.pick_true rfl rfl; rfl; (with_reducible apply St.nil); (with_reducible apply St.then_); (with_reducible apply St.cond_false); rfl; (with_reducible apply St.skip); (with_reducible apply St.inb); rotate_left))
              refine St.round_end (by (repeat (first | (exact Rep.head) | (apply Rep.tail)))) (fun w2 hw2' => ⟨_, rfl, .inl ⟨(T3, cc3), rfl, ⟨hT3, hstep hh⟩, ?_⟩⟩)
              rw [loop_eta2 hr1 hr2] at hw2'
              refine Wd.perm (Wd.sub hw2' ?_) (List.Perm.swap _ _ _)
              (repeat (first | (exact List.Sublist.refl _) | (exact List.nil_sublist _) | (with_reducible apply List.Sublist.cons_cons) | (with_reducible apply List.Sublist.cons)))
      · rintro k g ⟨T2, cc2⟩ hg hgf ⟨hT2, hno⟩
        refine ⟨hT2, fun j hj x hx => ?_⟩
        rcases Nat.lt_or_ge j k with h | h
        · exact hno j h x hx
        · have : j = k := by omega
          subst this
          rw [hg] at hx; injection hx with hx; subst hx
          cases hq : hitB l to val btr st m g with
          | false => rfl
          | true => exact absurd (hitB_iff.1 hq).1 hgf
      · rintro e w'' ⟨rfl, ⟨x, ⟨_, hx⟩, _⟩ | ⟨y, hy, hwd⟩⟩
        · rw [hx i0 (List.getElem?_eq_some_iff.1 h2).1 g0' h2] at h3; cases h3
        · refine ⟨_, rfl, y, .done, by simp, hy, ?_⟩
          exact (hw2.frame (fun z hz => by rw [hX] at hz; exact hz) hwd).perm List.perm_middle
    · intro x b _ h; cases h
    · rintro ⟨T2, cc2, v2, Lr2⟩ bb c ⟨hT2, hrow2⟩ hpx
      simp only at hT2 hrow2
      injection hpx with hpx
      subst hpx
      (focus ((with_reducible apply St.exit); (with_reducible apply St.inb_exit); (with_reducible apply St.inb); (with_reducible apply St.then_); rotate_left))
      refine St.again (⟨g0'.t, T2, cc2, v2, Lr2, outs ++ [(i0 : Int)], bb :: Dl⟩ : ChX) ⟨by simp only; omega, h5.2.1, ⟨_, h5.2.2.choose_spec.1⟩, hT2, by simpa using hrow2, by simp only [List.append_assoc, List.singleton_append]; rw [← hch']; exact hch, by simp only [List.length_append, List.length_singleton]; omega⟩ (by simp only; omega) rfl (by ((try simp only [List.cons_append]); (try simp only [List.nil_append])); (repeat (first | (exact Sub.nil _) | ((with_reducible apply Sub.cons); (focus (rfl)))))) (fun w hw => ?_)
      simp only [List.append_nil]
      exact (hw.sub (L' := (b2, .cells [.pointer (some ⟨s, 0, none⟩)].toArray 68 (0, 0)) :: (B, .map (mkEs T2).toArray cc2) :: (b5, .cells [v2].toArray 29 (0, 0)) :: (b3, .cells [.int .i64 g0'.t].toArray 3 (0, 0)) :: Lr2) (by (repeat (first | (exact List.Sublist.refl _) | (exact List.nil_sublist _) | (with_reducible apply List.Sublist.cons_cons) | (with_reducible apply List.Sublist.cons))))).perm (perm22 _ _ _ _ _)
end Go.Proofs.Ytikaonfnaobciaa
