/- A name that came in, read. -/
import Derived.Test.YtianblmceohmnaaKeys
import Derived.OpenShut
import Derived.WideShapes
import Derived.ProofKit
namespace Go.Proofs.Ytianblmceohmnaa.Hand
open Go.RowKit Go.OpenShut Go.ChangeShapes Go.WideShapes Go.ChangeAt Go.Proofs.Ytianblmceohmnaa.PAll Go.Proofs.YtianblmceohmnaaW.PrintWords
set_option linter.unusedSimpArgs false
set_option linter.unusedVariables false
set_option maxRecDepth 100000

section
variable {H : Type} {enc : TypeId × Value → H} {w : World} {base : Nat} {spare : Nat → Bool} {held : Bool}
theorem txn_cells {fuel : Nat} {cs : List Value} {x : DataW H × List MemPlace} (h : DataW.trod enc Try.prog w base spare held fuel 24 cs = some x) : ∃ a : S24, cs = [.int .i64 a.f0, .int .i64 a.f1, .int .i64 a.f2] := by
  obtain ⟨xs, n, _, _, hl, hx, hf⟩ := DataW.trod_struct Try.underlying24 h
  rw [show Try.prog.cellsOf 24 = 3 from by kernel_rfl] at hl
  match cs, hl with
  | [c0, c1, c2], _ =>
    match xs, hx with
    | [x0, x1, x2], _ =>
      have k3 : Try.prog.cellsOf 3 = 1 := by kernel_rfl
      have f0 := hf 0 _ rfl
      have f1 := hf 1 _ rfl
      have f2 := hf 2 _ rfl
      simp [k3] at f0 f1 f2
      obtain ⟨a0, h0, _, w0⟩ := DataW.trod_int Try.underlying3 f0
      obtain ⟨a1, h1, _, w1⟩ := DataW.trod_int Try.underlying3 f1
      obtain ⟨a2, h2, _, w2⟩ := DataW.trod_int Try.underlying3 f2
      simp at h0 h1 h2
      subst h0 h1 h2
      exact ⟨⟨a0, a1, a2⟩, rfl⟩
theorem txn_of_trod {P' : Reach} {base2 : Nat} {v : Value} {d : DataW H} {ps : List MemPlace} (hv : Value.okWide Try.prog w P' base2 24 v) (h : DataW.Trod enc Try.prog w base spare held 24 v d ps) : ∃ l : S24, v = val24 l ∧ True := by
  obtain ⟨cs, rfl, _⟩ := okWide_struct Try.underlying24 hv
  obtain ⟨fuel, h⟩ := h
  obtain ⟨a, ha⟩ := txn_cells h
  refine ⟨a, ?_, trivial⟩
  have : cs.toList = [.int .i64 a.f0, .int .i64 a.f1, .int .i64 a.f2] := ha
  have e : cs = #[.int .i64 a.f0, .int .i64 a.f1, .int .i64 a.f2] := by apply Array.toList_inj.1; rw [this]
  rw [e]
end
end Go.Proofs.Ytianblmceohmnaa.Hand
