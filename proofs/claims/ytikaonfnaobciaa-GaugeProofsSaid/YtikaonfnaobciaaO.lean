/- What the rows' arguments are, read from memory. -/
import Derived.Test.YtikaonfnaobciaaD1
import Derived.ChangeSlices
import Derived.ProofKit
import Derived.OpenShut
import Derived.ChangeOld
import Derived.Below
import Derived.ChangeArms
import Derived.Deep.Slices
namespace Go.Proofs.Ytikaonfnaobciaa
open Go.ChangeShapes Go.WideShapes Go.ChangeAt Go.RowKit
set_option maxRecDepth 100000
set_option linter.unusedVariables false
set_option linter.unusedSimpArgs false

section
variable {H : Type} {enc : TypeId × Value → H} {w : World} {base : Nat} {spare : Nat → Bool} {held : Bool}
theorem openSpan {fuel : Nat} {cs : List Value} {x : DataW H × List MemPlace} (h : DataW.trod enc Try.prog w base spare held fuel 24 cs = some x) : ∃ a b : Int, cs = [.int .i64 a, .int .i64 b] := by
  obtain ⟨xs, n, rfl, rfl, hlen, hxs, hf⟩ := DataW.trod_struct Try.underlying24 h
  rw [show Try.prog.cellsOf 24 = 2 from by kernel_rfl] at hlen
  match cs, hlen with
  | [c0, c1], _ =>
    have h0 : DataW.trod enc Try.prog w base spare held n 3 ((([c0, c1] : List Value).drop 0).take (Try.prog.cellsOf 3)) = xs[0]? := hf 0 _ rfl
    have h1 : DataW.trod enc Try.prog w base spare held n 3 ((([c0, c1] : List Value).drop 1).take (Try.prog.cellsOf 3)) = xs[1]? := hf 1 _ rfl
    rw [show Try.prog.cellsOf 3 = 1 from by kernel_rfl] at h0 h1
    simp at hxs
    match xs, hxs with
    | [x0, x1], _ =>
      obtain ⟨a, ha, _⟩ := DataW.trod_int Try.underlying3 (x := x0) h0
      obtain ⟨b, hb, _⟩ := DataW.trod_int Try.underlying3 (x := x1) h1
      simp at ha hb
      exact ⟨a, b, by rw [ha, hb]⟩
theorem openGa {fuel : Nat} {cs : List Value} {x : DataW H × List MemPlace} (h : DataW.trod enc Try.prog w base spare held fuel 26 cs = some x) : ∃ g : Ga, cs = g.vs := by
  obtain ⟨xs, n, rfl, rfl, hlen, hxs, hf⟩ := DataW.trod_struct Try.underlying26 h
  rw [show Try.prog.cellsOf 26 = 10 from by kernel_rfl] at hlen
  match cs, hlen with
  | [c0, c1, c2, c3, c4, c5, c6, c7, c8, c9], _ =>
    have h0 : DataW.trod enc Try.prog w base spare held n 3 ((([c0, c1, c2, c3, c4, c5, c6, c7, c8, c9] : List Value).drop 0).take (Try.prog.cellsOf 3)) = xs[0]? := hf 0 _ rfl
    have h1 : DataW.trod enc Try.prog w base spare held n 3 ((([c0, c1, c2, c3, c4, c5, c6, c7, c8, c9] : List Value).drop 1).take (Try.prog.cellsOf 3)) = xs[1]? := hf 1 _ rfl
    have h2 : DataW.trod enc Try.prog w base spare held n 24 ((([c0, c1, c2, c3, c4, c5, c6, c7, c8, c9] : List Value).drop 2).take (Try.prog.cellsOf 24)) = xs[2]? := hf 2 _ rfl
    have h3 : DataW.trod enc Try.prog w base spare held n 24 ((([c0, c1, c2, c3, c4, c5, c6, c7, c8, c9] : List Value).drop 4).take (Try.prog.cellsOf 24)) = xs[3]? := hf 3 _ rfl
    have h4 : DataW.trod enc Try.prog w base spare held n 24 ((([c0, c1, c2, c3, c4, c5, c6, c7, c8, c9] : List Value).drop 6).take (Try.prog.cellsOf 24)) = xs[4]? := hf 4 _ rfl
    have h5 : DataW.trod enc Try.prog w base spare held n 24 ((([c0, c1, c2, c3, c4, c5, c6, c7, c8, c9] : List Value).drop 8).take (Try.prog.cellsOf 24)) = xs[5]? := hf 5 _ rfl
    rw [show Try.prog.cellsOf 3 = 1 from by kernel_rfl] at h0 h1
    rw [show Try.prog.cellsOf 24 = 2 from by kernel_rfl] at h2 h3 h4 h5
    simp at hxs
    match xs, hxs with
    | [x0, x1, x2, x3, x4, x5], _ =>
      obtain ⟨a, ha, _⟩ := DataW.trod_int Try.underlying3 (x := x0) h0
      obtain ⟨b, hb, _⟩ := DataW.trod_int Try.underlying3 (x := x1) h1
      obtain ⟨p2, q2, e2⟩ := openSpan (x := x2) h2
      obtain ⟨p3, q3, e3⟩ := openSpan (x := x3) h3
      obtain ⟨p4, q4, e4⟩ := openSpan (x := x4) h4
      obtain ⟨p5, q5, e5⟩ := openSpan (x := x5) h5
      simp at ha hb e2 e3 e4 e5
      refine ⟨⟨a, b, p2, q2, p3, q3, p4, q4, p5, q5⟩, ?_⟩
      simp [ha, hb, e2, e3, e4, e5]
theorem spot_none {w : World} {a : Addr} {v : Value} (h : w.cell? a = some v) : a = ⟨a.block, a.off, none⟩ := by
  obtain ⟨b, o, sp⟩ := a
  unfold World.cell? at h
  split at h
  · cases sp with
    | none => rfl
    | some x => simp at h
  · cases h
theorem openGs {p : Option Addr} {len cap : Nat} {d : DataW H} {ps : List MemPlace} (h : DataW.Trod enc Try.prog w 0 (fun _ => true) held 22 (.slice p len cap) d ps) : ∃ l : List Ga, len = l.length ∧ l.length ≤ 9223372036854775807 ∧ GsAt w p l := by
  obtain ⟨fuel, hf⟩ := h
  rcases Go.Deep.open_slice Try.underlying22 hf with ⟨hcs, _⟩ | ⟨a, len', cap', m, n, D, Pl, hcs, _, hl, hm, hmm, _, hall⟩
  · simp [Value.cells] at hcs
    obtain ⟨rfl, rfl, rfl⟩ := hcs
    exact ⟨[], rfl, by simp, fun k g hg => by simp at hg⟩
  · simp [Value.cells] at hcs
    obtain ⟨rfl, rfl, rfl⟩ := hcs
    simp only [if_true] at hmm
    subst hmm
    have hg : ∀ i, i < len → ∃ g : Ga, ∀ j v, g.vs[j]? = some v → w.cell? ((a.add (i * 10)).add j) = some v := fun i hi => by
      obtain ⟨cs', h1, h2⟩ := hall i (by omega)
      rw [show Try.prog.cellsOf 26 = 10 from by kernel_rfl] at h1
      obtain ⟨g, rfl⟩ := openGa h2
      refine ⟨g, fun j v hj => ?_⟩
      have h3 := (World.cells?_some h1).2.2 j (by have := (List.getElem?_eq_some_iff.1 hj).1; simpa using this)
      rw [h3]; exact hj
    have hch : ∃ f : Nat → Ga, ∀ i, i < len → ∀ j v, (f i).vs[j]? = some v → w.cell? ((a.add (i * 10)).add j) = some v := by
      refine ⟨fun i => if h : i < len then (hg i h).choose else ⟨0, 0, 0, 0, 0, 0, 0, 0, 0, 0⟩, fun i hi => ?_⟩
      simp only [dif_pos hi]
      exact (hg i hi).choose_spec
    obtain ⟨f, hf2⟩ := hch
    refine ⟨(List.range len).map f, by simp, by simp only [List.length_map, List.length_range]; simp only [maxLen] at hm; omega, fun k g hk => ?_⟩
    have hkl : k < len := by have := (List.getElem?_eq_some_iff.1 hk).1; simpa using this
    have hgk : f k = g := by simpa [hkl] using hk
    subst hgk
    have ha : a = ⟨a.block, a.off, none⟩ := by
      have := hf2 0 (by omega) 0 _ rfl
      simp [Addr.add] at this
      exact spot_none this
    rw [ha]
    refine ⟨a.block, a.off, rfl, fun j v hj => ?_⟩
    have := hf2 k hkl j v hj
    rw [ha, Addr.add_none, Addr.add_none] at this
    exact this
theorem openIs {p : Option Addr} {len cap : Nat} {d : DataW H} {ps : List MemPlace} (h : DataW.Trod enc Try.prog w 0 (fun _ => true) held 29 (.slice p len cap) d ps) : ∃ xs : List Int, len = xs.length ∧ xs.length ≤ 9223372036854775807 ∧ xs.length ≤ cap ∧ RowAt w p 1 xs.length (iRow xs) := by
  obtain ⟨fuel, hf⟩ := h
  rcases open_ints Try.underlying29 Try.underlying3 (by kernel_rfl) hf with ⟨hcs, _⟩ | ⟨a, len', cap', zs, hcs, _, hl, hm, hz, _, hc, _⟩
  · simp [Value.cells] at hcs
    obtain ⟨rfl, rfl, rfl⟩ := hcs
    exact ⟨[], rfl, by simp, by simp, fun j hj => by simp at hj⟩
  · simp [Value.cells] at hcs
    obtain ⟨rfl, rfl, rfl⟩ := hcs
    simp only [if_true] at hz
    have hlen : (zs.take len).length = len := by rw [List.length_take]; omega
    simp only [maxLen] at hm
    refine ⟨zs.take len, hlen.symm, by omega, by omega, fun j hj => ?_⟩
    rw [hlen] at hj
    have h1 := hc j (by omega)
    have ha : a = ⟨a.block, a.off, none⟩ := by
      have h0 := hc 0 (by omega)
      simp [Addr.add] at h0
      exact spot_none h0
    rw [ha]
    refine ⟨rfl, fun q v hq => ?_, rfl⟩
    rw [ha, Addr.add_none] at h1
    have hq0 : q = 0 := by
      rcases q with _ | q
      · rfl
      · simp [iRow, SV.cs, SV.vals] at hq
    subst hq0
    have hv : v = .int .i64 ((zs.take len).getD j 0) := by simpa [iRow, SV.cs, SV.vals, SV.val] using hq.symm
    rw [hv]
    show w.cell? ⟨a.block, a.off + j * 1 + 0, none⟩ = _
    rw [Nat.mul_one, Nat.add_zero, h1]
    simp [List.getD_eq_getElem?_getD, hj]
end

theorem own : ownKnob Try.prog.godebug = none := by kernel_rfl
theorem laidOut : laidOutB Try.prog = true := by kernel_rfl
end Go.Proofs.Ytikaonfnaobciaa
