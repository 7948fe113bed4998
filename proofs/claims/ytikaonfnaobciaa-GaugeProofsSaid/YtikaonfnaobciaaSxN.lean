/- Words' own rules. -/
import Derived.Test.YtikaonfnaobciaaSxM
namespace Go.Proofs.Ytikaonfnaobciaa
open Go.RowKit
theorem subS {w0 : World} {X M : List Nat} {L L' : List (Nat × Obj)} (hs : L'.Sublist L) : ∀ w, Wd ⟨w0, X, L, M⟩ w → Wd ⟨w0, X, L', M⟩ w := fun _ h => Wd.sub h hs
section
variable {P : Program} {N : Nat} {E : Env} {D : List Nat} {S : Sp} {ty : TypeId} {pos : String} {aft : Array Edge} {dst : Option Tmp} {g : Option (Nat × Bool)}
theorem Y.makeFuncv {fn : Fn} {fs cs : List Operand} {fv cv : List Value} (hf : Args E fs fv) (hc : Args E cs cv) : Y P N E D S ⟨dst, .makeFunc fn fs.toArray cs.toArray, ty, pos, aft, g⟩ (.func fn fv.toArray cv.toArray) :=
  Y.makeFunc (fun a ha => by rw [List.map_toArray, hf.map ha]) (fun a ha => by rw [List.map_toArray, hc.map ha])
end
end Go.Proofs.Ytikaonfnaobciaa
