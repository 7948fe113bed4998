/- GaugeChains: Least, Most, Bounds and Mean are those of the reference, for every input; this text takes the row's arguments from memory and joins the walk of the law. -/
import Derived.Test.YtikaonfnaobciaaD8
import Derived.Test.YtikaonfnaobciaaRows
import Derived.ProofKit
import Derived.OpenShut
import Derived.ChangeOld
import Derived.Below
import Derived.ChangeArms
import Derived.Deep.Slices
namespace Go.Proofs.Ytikaonfnaobciaa
open Go.ChangeShapes Go.WideShapes Go.ChangeAt Go.RowKit
set_option maxRecDepth 100000
set_option linter.unusedVariables false
set_option linter.unusedSimpArgs false

section
variable {H : Type} {enc : TypeId × Value → H} {w : World} {base : Nat} {spare : Nat → Bool} {held : Bool}
theorem openSpan {fuel : Nat} {cs : List Value} {x : DataW H × List MemPlace} (h : DataW.trod enc Try.prog w base spare held fuel 24 cs = some x) : ∃ a b : Int, cs = [.int .i64 a, .int .i64 b] := by
  obtain ⟨xs, n, rfl, rfl, hlen, hxs, hf⟩ := DataW.trod_struct Try.underlying24 h
  rw [show Try.prog.cellsOf 24 = 2 from by kernel_rfl] at hlen
  match cs, hlen with
  | [c0, c1], _ =>
    have h0 : DataW.trod enc Try.prog w base spare held n 3 ((([c0, c1] : List Value).drop 0).take (Try.prog.cellsOf 3)) = xs[0]? := hf 0 _ rfl
    have h1 : DataW.trod enc Try.prog w base spare held n 3 ((([c0, c1] : List Value).drop 1).take (Try.prog.cellsOf 3)) = xs[1]? := hf 1 _ rfl
    rw [show Try.prog.cellsOf 3 = 1 from by kernel_rfl] at h0 h1
    simp at hxs
    match xs, hxs with
    | [x0, x1], _ =>
      obtain ⟨a, ha, _⟩ := DataW.trod_int Try.underlying3 (x := x0) h0
      obtain ⟨b, hb, _⟩ := DataW.trod_int Try.underlying3 (x := x1) h1
      simp at ha hb
      exact ⟨a, b, by rw [ha, hb]⟩
theorem openGa {fuel : Nat} {cs : List Value} {x : DataW H × List MemPlace} (h : DataW.trod enc Try.prog w base spare held fuel 26 cs = some x) : ∃ g : Ga, cs = g.vs := by
  obtain ⟨xs, n, rfl, rfl, hlen, hxs, hf⟩ := DataW.trod_struct Try.underlying26 h
  rw [show Try.prog.cellsOf 26 = 10 from by kernel_rfl] at hlen
  match cs, hlen with
  | [c0, c1, c2, c3, c4, c5, c6, c7, c8, c9], _ =>
    have h0 : DataW.trod enc Try.prog w base spare held n 3 ((([c0, c1, c2, c3, c4, c5, c6, c7, c8, c9] : List Value).drop 0).take (Try.prog.cellsOf 3)) = xs[0]? := hf 0 _ rfl
    have h1 : DataW.trod enc Try.prog w base spare held n 3 ((([c0, c1, c2, c3, c4, c5, c6, c7, c8, c9] : List Value).drop 1).take (Try.prog.cellsOf 3)) = xs[1]? := hf 1 _ rfl
    have h2 : DataW.trod enc Try.prog w base spare held n 24 ((([c0, c1, c2, c3, c4, c5, c6, c7, c8, c9] : List Value).drop 2).take (Try.prog.cellsOf 24)) = xs[2]? := hf 2 _ rfl
    have h3 : DataW.trod enc Try.prog w base spare held n 24 ((([c0, c1, c2, c3, c4, c5, c6, c7, c8, c9] : List Value).drop 4).take (Try.prog.cellsOf 24)) = xs[3]? := hf 3 _ rfl
    have h4 : DataW.trod enc Try.prog w base spare held n 24 ((([c0, c1, c2, c3, c4, c5, c6, c7, c8, c9] : List Value).drop 6).take (Try.prog.cellsOf 24)) = xs[4]? := hf 4 _ rfl
    have h5 : DataW.trod enc Try.prog w base spare held n 24 ((([c0, c1, c2, c3, c4, c5, c6, c7, c8, c9] : List Value).drop 8).take (Try.prog.cellsOf 24)) = xs[5]? := hf 5 _ rfl
    rw [show Try.prog.cellsOf 3 = 1 from by kernel_rfl] at h0 h1
    rw [show Try.prog.cellsOf 24 = 2 from by kernel_rfl] at h2 h3 h4 h5
    simp at hxs
    match xs, hxs with
    | [x0, x1, x2, x3, x4, x5], _ =>
      obtain ⟨a, ha, _⟩ := DataW.trod_int Try.underlying3 (x := x0) h0
      obtain ⟨b, hb, _⟩ := DataW.trod_int Try.underlying3 (x := x1) h1
      obtain ⟨p2, q2, e2⟩ := openSpan (x := x2) h2
      obtain ⟨p3, q3, e3⟩ := openSpan (x := x3) h3
      obtain ⟨p4, q4, e4⟩ := openSpan (x := x4) h4
      obtain ⟨p5, q5, e5⟩ := openSpan (x := x5) h5
      simp at ha hb e2 e3 e4 e5
      refine ⟨⟨a, b, p2, q2, p3, q3, p4, q4, p5, q5⟩, ?_⟩
      simp [ha, hb, e2, e3, e4, e5]
theorem spot_none {w : World} {a : Addr} {v : Value} (h : w.cell? a = some v) : a = ⟨a.block, a.off, none⟩ := by
  obtain ⟨b, o, sp⟩ := a
  unfold World.cell? at h
  split at h
  · cases sp with
    | none => rfl
    | some x => simp at h
  · cases h
theorem openGs {p : Option Addr} {len cap : Nat} {d : DataW H} {ps : List MemPlace} (h : DataW.Trod enc Try.prog w 0 (fun _ => true) held 22 (.slice p len cap) d ps) : ∃ l : List Ga, len = l.length ∧ l.length ≤ 9223372036854775807 ∧ GsAt w p l := by
  obtain ⟨fuel, hf⟩ := h
  rcases Go.Deep.open_slice Try.underlying22 hf with ⟨hcs, _⟩ | ⟨a, len', cap', m, n, D, Pl, hcs, _, hl, hm, hmm, _, hall⟩
  · simp [Value.cells] at hcs
    obtain ⟨rfl, rfl, rfl⟩ := hcs
    exact ⟨[], rfl, by simp, fun k g hg => by simp at hg⟩
  · simp [Value.cells] at hcs
    obtain ⟨rfl, rfl, rfl⟩ := hcs
    simp only [if_true] at hmm
    subst hmm
    have hg : ∀ i, i < len → ∃ g : Ga, ∀ j v, g.vs[j]? = some v → w.cell? ((a.add (i * 10)).add j) = some v := fun i hi => by
      obtain ⟨cs', h1, h2⟩ := hall i (by omega)
      rw [show Try.prog.cellsOf 26 = 10 from by kernel_rfl] at h1
      obtain ⟨g, rfl⟩ := openGa h2
      refine ⟨g, fun j v hj => ?_⟩
      have h3 := (World.cells?_some h1).2.2 j (by have := (List.getElem?_eq_some_iff.1 hj).1; simpa using this)
      rw [h3]; exact hj
    have hch : ∃ f : Nat → Ga, ∀ i, i < len → ∀ j v, (f i).vs[j]? = some v → w.cell? ((a.add (i * 10)).add j) = some v := by
      refine ⟨fun i => if h : i < len then (hg i h).choose else ⟨0, 0, 0, 0, 0, 0, 0, 0, 0, 0⟩, fun i hi => ?_⟩
      simp only [dif_pos hi]
      exact (hg i hi).choose_spec
    obtain ⟨f, hf2⟩ := hch
    refine ⟨(List.range len).map f, by simp, by simp only [List.length_map, List.length_range]; simp only [maxLen] at hm; omega, fun k g hk => ?_⟩
    have hkl : k < len := by have := (List.getElem?_eq_some_iff.1 hk).1; simpa using this
    have hgk : f k = g := by simpa [hkl] using hk
    subst hgk
    have ha : a = ⟨a.block, a.off, none⟩ := by
      have := hf2 0 (by omega) 0 _ rfl
      simp [Addr.add] at this
      exact spot_none this
    rw [ha]
    refine ⟨a.block, a.off, rfl, fun j v hj => ?_⟩
    have := hf2 k hkl j v hj
    rw [ha, Addr.add_none, Addr.add_none] at this
    exact this
end

theorem own : ownKnob Try.prog.godebug = none := by kernel_rfl
theorem laidOut : laidOutB Try.prog = true := by kernel_rfl

theorem liftedChains (os : Os) (started : os.Started) (H : Type) (enc : TypeId × Value → H) :
    ReturnsInHanded {} Try.checked os 4 .any (Rows.gaugeChainsSpec.pre6 enc Try.prog Try.f4 Rows.gaugeChainsRow.domain false) (Rows.gaugeChainsSpec.post enc Try.prog Try.f4 false true false false) := by
  refine returnsInHanded_of_change (C := Try.checked) own started (by kernel_rfl) Try.func4
    (ChangeSpec.witness6 (enc := enc) (C := Try.checked) false ⟨#[], #[.slice none 0 0, .int .i64 0, .int .i64 0], []⟩ 8 (by kernel_rfl) (by kernel_rfl) (by kernel_rfl) (by kernel_rfl)) ?_
  intro W base args ds gs before hval0 hW hcnd _
  have hval : ∀ (j : Nat) t v, Try.f4.params[j]? = some t → args[j]? = some v → Value.okWide Try.prog W .any base t v := hval0
  have hW' := hW
  obtain ⟨p, q, hA0, hV, rfl, hfz, hnd⟩ := hW
  have hA : DataW.TrodAll enc Try.prog W 0 (fun _ => true) true Try.f4.params.toList args.toList ds p := hA0
  rw [Try.params4] at hA hval
  obtain ⟨v0, vs0, d0, ds0, p0, q0, hargs, rfl, rfl, h0, r0⟩ := trodAll_cons hA
  obtain ⟨v2, vs2, d2, ds2, p2, q2, rfl, rfl, rfl, h2, r2⟩ := trodAll_cons r0
  obtain ⟨v3, vs3, d3, ds3, p3, q3, rfl, rfl, rfl, h3, r3⟩ := trodAll_cons r2
  obtain ⟨rfl, rfl, rfl⟩ := trodAll_nil r3
  obtain rfl : args = #[v0, v2, v3] := by cases args; simp_all
  obtain ⟨rfl, rfl⟩ := trodVars_none hV
  obtain ⟨a0, len0, cap0, rfl⟩ := okWide_slice Try.underlying22 (hval 0 22 v0 rfl rfl)
  have k0 := h0
  have lt0 : ∀ x ∈ p0, x.block < W.heap.size := by obtain ⟨m, hm⟩ := k0; exact DataW.trod_lt m _ _ _ hm
  obtain ⟨l, rfl, hl, hG⟩ := openGs h0
  obtain ⟨a2, rfl, rfl, rfl, w2⟩ := open_int Try.underlying3 (hval 1 3 v2 rfl rfl) h2
  obtain ⟨a3, rfl, rfl, rfl, w3⟩ := open_int Try.underlying3 (hval 2 3 v3 rfl rfl) h3
  clear hA0 hval0
  refine (chains_any a0 cap0 l a2 a3 W hl hG).mono fun e W' ⟨he, hk⟩ => ?_
  have bel := hk.below
  subst he
  exact ⟨_, rfl, _, _, _, [], _, [], hW', trodAll_mk1 (shut_bool Try.underlying4 _), (trodAll_cons_mk (Below.trod laidOut (by kernel_rfl) (of_decide_eq_true (by kernel_rfl)) k0 bel lt0) (trodAll_cons_mk (shut_int Try.underlying3 w2) (trodAll_cons_mk (shut_int Try.underlying3 w3) trodAll_mk0))), rfl, bel.frame _, fun h => by cases h⟩

theorem overChains : Rows.gaugeChainsRow.holds Try.pinned (OpenSpec.ofChange Rows.gaugeChainsSpec) :=
  OpenClaim.holds_of_wide 4 Try.f4 rfl rfl rfl rfl rfl rfl rfl ⟨rfl, rfl, rfl, rfl, rfl⟩ rfl rfl rfl rfl rfl (by kernel_rfl) Try.func4 (by kernel_rfl)
    (of_decide_eq_true (by kernel_rfl)) (by unfold Func.isWrapper; first | (rw [if_pos (by decide +kernel)]; kernel_rfl) | (rw [if_neg (by decide +kernel)]; exact ⟨rfl, rfl⟩))
    (fun os started H enc _ => liftedChains os started H enc)
theorem gaugeChains_proved : Rows.GaugeChainsSaid := overChains
#print axioms gaugeChains_proved
end Go.Proofs.Ytikaonfnaobciaa
