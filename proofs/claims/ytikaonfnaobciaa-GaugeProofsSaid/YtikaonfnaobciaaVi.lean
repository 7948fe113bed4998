/- Regions of any order in which some reads stand among the acts. -/
import Derived.Test.YtikaonfnaobciaaVg
namespace Go.Proofs.Ytikaonfnaobciaa
open Go.RowKit
set_option linter.unusedVariables false
set_option linter.unusedSimpArgs false

def calmX (bad : List Nat) (i : Nat) (calm : List Nat) : List Oper → List Nat
  | [] => calm
  | o :: r => match memN bad i with
    | true => calmX bad (i + 1) calm r
    | false => match (match quiet o.op with | true => allN calm (bindsOf o.after.toList) | false => false) with
      | true => calmX bad (i + 1) (i :: calm) r
      | false => calmX bad (i + 1) calm r
def anyXB (bad : List Nat) (l : List Oper) : Bool := headB l.toArray l.length && planB l l.length (mkPlan l (calmX bad 0 [] l) (l.length + 1) []) l.length (Array.replicate l.length false)
/-- All orders; rm: the blocks that the region turns; bad: what reads them. -/
def vanyX (P : Program) (T : Tr) (N : Nat) (w0 : World) (X D : List Nat) (l : List Oper) (bad rm : List Nat) (E : SEnv) (H : Heap) (k : SEnv → Heap → Prop) : Prop :=
  anyXB bad l = true ∧
  nrm (rmH rm H) fun H0 => distinctB H0 = true ∧ subQ H0 H ∧ vplan P T N w0 X D l H0 (mkPlan l (calmX bad 0 [] l) (l.length + 1) []) E H k
section
variable {P : Program} {T : Tr} {N : Nat} {E : SEnv} {D : List Nat} {H : Heap} {w0 : World} {X : List Nat} {r : Option Nat} {Q : Exit → Act → World → Prop}
theorem vanyX_ok {id : Nat} {l : List Oper} {bad rm : List Nat} {k : SEnv → Heap → Prop} (hT : T.All P) (hm : P.follows .mixedOrders = true) (h : vanyX P T N w0 X D l bad rm E H k) (hk : ∀ E' H', k E' H' → VSt N w0 X E' H' D (Q .normal)) :
    VSt N w0 X E H D ((Code.region id l.toArray true).wpIn (FR r) 0 P Q) := by
  obtain ⟨hb, h⟩ := h
  rw [nrm_iff] at h
  obtain ⟨hd, hsub, h⟩ := h
  simp only [anyXB, Bool.and_eq_true] at hb
  obtain ⟨hB, hp⟩ := hb
  refine VSt.hw.2 fun a w ha hw => wpIn_region_any hm ?_
  have hz : (Array.replicate l.length false).size = l.toArray.size := by simp
  have inv0 : HeadInv .any l.toArray l.length (Array.replicate l.length false) :=
    ⟨hz, fun j oj _ hl => (by rw [getD_replicate_false] at hl; cases hl), fun t _ ht => getD_in (by rw [hz]; exact ht) (getD_replicate_false _ _)⟩
  have hT2 : Fr N (venv E) D a ∧ HW w0 X H D { w with drawn := w.drawn + 1 } := ⟨ha, hw.drew⟩
  have hg := vplan_ok (r := r) (G := Q .normal) hT hB hd hk hp (by simp) hsub h
  have hl : wpListIn (FR r) 0 P l.toArray Q (l.toArray.toList.drop l.length) = Q .normal := by
    simp [wpListIn]
  have := Good.wp hB l.length (Array.replicate l.length false) _ hz inv0 (by
    rw [show (List.range l.length).filter (fun j => !(Array.replicate l.length false).getD j false) = List.range l.length from List.filter_eq_self.2 fun j _ => by rw [getD_replicate_false]; rfl]
    simp) (by rw [hl]; exact hg) a _ hT2
  have he : l.length + (l.toArray.size - l.length) = l.toArray.size := by simp
  rw [he] at this
  simpa using this
theorem RegionV.anyX {id : Nat} {ops : Array Oper} {k : Exit → SEnv → Heap → List Nat → Prop} (hT : T.All P) (hm : P.follows .mixedOrders = true) (bad rm : List Nat) (h : vanyX P T N w0 X D ops.toList bad rm E H fun E' H' => k .normal E' H' D) : RegionV P N w0 X r (.region id ops true) k E H D := fun Q hk => by
  obtain ⟨ops⟩ := ops
  exact vanyX_ok hT hm h fun E' H' h => hk _ _ _ _ h
end
end Go.Proofs.Ytikaonfnaobciaa
