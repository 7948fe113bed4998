import Derived.Test.YtikaonfnaobciaaC1
namespace Go.Proofs.Ytikaonfnaobciaa
open Go.RowKit
attribute [local irreducible] Y St GSt
set_option maxRecDepth 100000

/-- Gauges in memory. -/
def GsAt (w : World) (p : Option Addr) (l : List Ga) : Prop := ∀ k g, l[k]? = some g → ∃ b o, p = some ⟨b, o, none⟩ ∧ Cs w b (o + k * 10) g.vs
theorem GsAt.kp {w w' : World} {p : Option Addr} {l : List Ga} {X : List Nat} (h : GsAt w p l) (hk : Kp X w w') (hp : ∀ a, p = some a → a.block ∉ X) : GsAt w' p l := fun k g hg => by
  obtain ⟨b, o, rfl, hc⟩ := h k g hg
  exact ⟨b, o, rfl, hc.kp hk (hp _ rfl)⟩
theorem get_lt {α : Type} {l : List α} {k : Nat} (h : k < l.length) : ∃ g, l[k]? = some g := ⟨l[k], List.getElem?_eq_getElem h⟩

def idxBad (l : List Ga) : Int := match l.findIdx? (fun g => decide (¬ g.ok)) with | some i => i | none => -1
theorem idxBad_at {l : List Ga} {k : Nat} {g : Ga} (hb : ∀ j, j < k → ∀ x, l[j]? = some x → x.ok) (hg : l[k]? = some g) (h : ¬ g.ok) : idxBad l = k := by
  have : l.findIdx? (fun g => decide (¬ g.ok)) = some k := by
    rw [List.findIdx?_eq_some_iff_getElem]
    have hk := (List.getElem?_eq_some_iff.1 hg)
    have hk1 := hk.1
    refine ⟨hk.1, by simp only [hk.2]; exact decide_eq_true h, fun j hj => ?_⟩
    have := hb j hj _ (List.getElem?_eq_getElem (Nat.lt_trans hj hk1))
    simp only [Bool.not_eq_true, decide_eq_false_iff_not, Classical.not_not]
    exact this
  unfold idxBad; rw [this]
theorem idxBad_none {l : List Ga} (hb : ∀ g ∈ l, g.ok) : idxBad l = -1 := by
  have : l.findIdx? (fun g => decide (¬ g.ok)) = none := by
    rw [List.findIdx?_eq_none_iff]
    intro g hg
    simp only [decide_eq_false_iff_not, Classical.not_not]
    exact hb g hg
  unfold idxBad; rw [this]

theorem idx_any (p : Option Addr) (cap : Nat) (l : List Ga) (w : World) (hl : l.length ≤ 9223372036854775807) (hG : GsAt w p l) :
    Pure_ Try.prog 64 [.slice p l.length cap, .func (.func 57) #[] #[]] (.int .i64 (idxBad l)) w := by
  refine enter Try.func64 rfl Try.ntmps64 rfl (wd_start w) ?_
  (focus ((with_reducible apply St.seq); (with_reducible apply St.region); (with_reducible apply St.opr); rfl; rfl; (with_reducible apply St.val); exact Y.assign rfl; rfl; (with_reducible apply St.nil); (with_reducible apply St.then_); (with_reducible apply St.seq); (with_reducible apply St.seq); (with_reducible apply St.region); (with_reducible apply St.opr); rfl; rfl; (with_reducible apply St.val); exact Y.move rfl; rfl; (with_reducible apply St.opr); rfl; rfl; (with_reducible apply St.val); exact Y.len_slice rfl; rfl; (with_reducible apply St.opr); rfl; rfl; (with_reducible apply St.val); exact Y.move rfl; rfl; (with_reducible apply St.nil); (with_reducible apply St.then_); (with_reducible apply St.block); rotate_left))
  apply St.loopS (ι := Nat) (E' := [(7, _), (0, _), (1, _)]) (fun k => [(8, .int .i64 k)]) (fun _ => []) (fun k => k ≤ l.length ∧ ∀ j, j < k → ∀ x, l[j]? = some x → x.ok) (fun k => l.length - k) 0
  case hE => ((try simp only [List.cons_append]); (try simp only [List.nil_append])); (repeat (first | (exact Sub.nil _) | ((with_reducible apply Sub.cons); (focus (rfl)))))
  case hS => ((try simp only [List.cons_append]); (try simp only [List.nil_append])); exact fun _ h => h
  case hI => exact ⟨by omega, fun j hj => by omega⟩
  intro k hk
  ((try simp only [List.cons_append]); (try simp only [List.nil_append]))
  obtain ⟨hk, hok⟩ := hk
  rcases Nat.lt_or_ge k l.length with hlt | hge
  · obtain ⟨g, hg⟩ := get_lt hlt
    obtain ⟨b, o, rfl, hc⟩ := hG k g hg
    (focus ((with_reducible apply St.seq); (with_reducible apply St.region); (with_reducible apply St.opr); rfl; rfl; (with_reducible apply St.val); exact Y.lss rfl rfl; rfl; (with_reducible apply St.dec_t); omega; (with_reducible apply St.nil); (with_reducible apply St.then_); (with_reducible apply St.seq); (with_reducible apply St.cond_true); rfl; (with_reducible apply St.skip); (with_reducible apply St.then_); (with_reducible apply St.seq); (with_reducible apply St.block); (with_reducible apply St.seq); (with_reducible apply St.region); (with_reducible apply St.opr); rfl; rfl; (with_reducible apply St.val); exact Y.move rfl; rfl; (with_reducible apply St.opr); rfl; rfl; (with_reducible apply St.val); exact Y.assign rfl; rfl; (with_reducible apply St.nil); (with_reducible apply St.then_); (with_reducible apply St.seq); (with_reducible apply St.region); (with_reducible apply St.opr); rfl; rfl; (with_reducible apply St.val); exact Y.move rfl; rfl; (with_reducible apply St.opr); rfl; rfl; (with_reducible apply St.val); exact Y.move rfl; rfl; (with_reducible apply St.opr); rfl; rfl; (with_reducible apply St.val); exact Y.move rfl; rfl; (with_reducible apply St.opr); rfl; rfl; (with_reducible apply St.val); exact Y.indexSliceK rfl rfl (by omega); rfl; (with_reducible apply St.opr); rfl; rfl; (with_reducible apply St.val); (with_reducible apply Y.load_ext_agg); rfl; assumption; rfl; simp; rfl; (with_reducible apply St.opr); rfl; rfl; (with_reducible apply St.callv); rfl; infer_instance; apply Args.cons; rfl; exact Args.nil; exact fun w _ => valid1_any _ w; rfl; (with_reducible apply St.dec); intro _; (with_reducible apply St.nil); (with_reducible apply St.then_); (with_reducible apply St.cond_true); rfl; (with_reducible apply St.seq); (with_reducible apply St.region); (with_reducible apply St.opr); rfl; rfl; (with_reducible apply St.val); exact Y.move rfl; rfl; (with_reducible apply St.opr); rfl; rfl; (with_reducible apply St.val); exact Y.assign rfl; rfl; (with_reducible apply St.nil); (with_reducible apply St.then_); (with_reducible apply St.ret); (with_reducible apply St.inb_ret); (with_reducible apply St.then_ret); (with_reducible apply St.then_ret); (with_reducible apply St.inb_ret); (with_reducible apply St.then_ret); rotate_left; intro _; (with_reducible apply St.nil); (with_reducible apply St.then_); (with_reducible apply St.cond_false); rfl; (with_reducible apply St.skip); (with_reducible apply St.inb); (with_reducible apply St.then_); (with_reducible apply St.region); (with_reducible apply St.opr); rfl; rfl; (with_reducible apply St.val); exact Y.add_ok rfl rfl (by omega); rfl; (with_reducible apply St.opr); rfl; rfl; (with_reducible apply St.val); exact Y.move rfl; rfl; (with_reducible apply St.nil); (with_reducible apply St.then_); rotate_left))
    · refine St.leave (D := []) (M := []) rfl (by (repeat (first | (exact Res.nil) | ((apply Res.tmp); (focus (rfl))) | ((apply Res.agg); (focus (rfl)); (focus ((repeat (first | (exact List.Mem.head _) | (apply List.Mem.tail))); done)); (focus ((repeat (first | (exact GetAt.zero) | (apply GetAt.take) | (apply GetAt.skip))); done))) | ((apply Res.one); (focus (rfl)); (focus ((repeat (first | (exact List.Mem.head _) | (apply List.Mem.tail))); done)); (focus ((repeat (first | (exact GetAt.zero) | (apply GetAt.take) | (apply GetAt.skip))); done)))))) (fun w hw => ⟨?_, hw.kp⟩)
      rw [idxBad_at hok hg (by assumption)]; rfl
    · refine St.again (k + 1) ⟨by omega, fun j hj x hx => ?_⟩ (by omega) rfl (by ((try simp only [List.cons_append]); (try simp only [List.nil_append])); (repeat (first | (exact Sub.nil _) | ((with_reducible apply Sub.cons); (focus (rfl)))))) (by (exact (fun _ h => Wd.sub h (by ((try simp only [List.cons_append]); (try simp only [List.nil_append])); (repeat (first | (exact List.Sublist.refl _) | (exact List.nil_sublist _) | (with_reducible apply List.Sublist.cons_cons) | (with_reducible apply List.Sublist.cons)))))))
      rcases Nat.lt_or_ge j k with h | h
      · exact hok j h x hx
      · have : j = k := by omega
        subst this
        rw [hg] at hx; injection hx with hx; subst hx; exact Classical.not_not.1 (by assumption)
  · (focus ((with_reducible apply St.seq); (with_reducible apply St.region); (with_reducible apply St.opr); rfl; rfl; (with_reducible apply St.val); exact Y.lss rfl rfl; rfl; (with_reducible apply St.dec_f); omega; (with_reducible apply St.nil); (with_reducible apply St.then_); (with_reducible apply St.seq); (with_reducible apply St.cond_false); rfl; (with_reducible apply St.exit); (with_reducible apply St.then_exit); (with_reducible apply St.then_exit); (with_reducible apply St.inb_exit); (with_reducible apply St.then_); (with_reducible apply St.seq); (with_reducible apply St.region); (with_reducible apply St.opr); rfl; rfl; (with_reducible apply St.val); exact Y.assign rfl; rfl; (with_reducible apply St.nil); (with_reducible apply St.then_); (with_reducible apply St.ret); rotate_left))
    refine St.leave (D := []) (M := []) rfl (by (repeat (first | (exact Res.nil) | ((apply Res.tmp); (focus (rfl))) | ((apply Res.agg); (focus (rfl)); (focus ((repeat (first | (exact List.Mem.head _) | (apply List.Mem.tail))); done)); (focus ((repeat (first | (exact GetAt.zero) | (apply GetAt.take) | (apply GetAt.skip))); done))) | ((apply Res.one); (focus (rfl)); (focus ((repeat (first | (exact List.Mem.head _) | (apply List.Mem.tail))); done)); (focus ((repeat (first | (exact GetAt.zero) | (apply GetAt.take) | (apply GetAt.skip))); done)))))) (fun w hw => ⟨?_, hw.kp⟩)
    rw [idxBad_none fun g hg => by obtain ⟨j, hj⟩ := List.mem_iff_getElem?.1 hg; exact hok j (by have := (List.getElem?_eq_some_iff.1 hj).1; omega) g hj]; rfl
end Go.Proofs.Ytikaonfnaobciaa
