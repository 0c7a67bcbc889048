/- A slice of entries that came in, read. -/
import Derived.Test.YtianblmceohmnaaArgs
import Derived.Deep.Slices
import Derived.Deep.RegionLaw
namespace Go.Proofs.Ytianblmceohmnaa.Hand
open Go.RowKit Go.OpenShut Go.ChangeShapes Go.WideShapes Go.ChangeAt Go.Proofs.Ytianblmceohmnaa.PAll Go.Proofs.YtianblmceohmnaaW.PrintWords
set_option linter.unusedSimpArgs false
set_option linter.unusedVariables false
set_option maxRecDepth 100000

section
variable {H : Type} {enc : TypeId × Value → H} {w : World} {base : Nat} {spare : Nat → Bool} {held : Bool}
theorem slot_cells {fuel : Nat} {cs : List Value} {x : DataW H × List MemPlace} (h : DataW.trod enc Try.prog w base spare held fuel 29 cs = some x) : ∃ a : S29, cs = [.bool a.f0, .string a.f1] := by
  obtain ⟨xs, n, _, _, hl, hx, hf⟩ := DataW.trod_struct Try.underlying29 h
  rw [show Try.prog.cellsOf 29 = 2 from by kernel_rfl] at hl
  match cs, hl with
  | [c0, c1], _ =>
    match xs, hx with
    | [x0, x1], _ =>
      have k3 : Try.prog.cellsOf 4 = 1 := by kernel_rfl
      have k4 : Try.prog.cellsOf 9 = 1 := by kernel_rfl
      have f0 := hf 0 _ rfl
      have f1 := hf 1 _ rfl
      simp [k3, k4] at f0 f1
      obtain ⟨a0, h0, _⟩ := DataW.trod_bool Try.underlying4 f0
      obtain ⟨a1, h1, _, w1⟩ := DataW.trod_string Try.underlying9 f1
      simp at h0 h1
      subst h0 h1
      exact ⟨⟨a0, a1⟩, rfl⟩
theorem entry_cells {fuel : Nat} {cs : List Value} {x : DataW H × List MemPlace} (h : DataW.trod enc Try.prog w base spare held fuel 31 cs = some x) : ∃ a : S31, cs = [.int .i64 a.f0, .int .i64 a.f1.f0, .int .i64 a.f1.f1, .int .i64 a.f1.f2, .int .i64 a.f2, .int .i64 a.f3, .int .i64 a.f4, .int .i64 a.f5, .bool a.f6.f0, .string a.f6.f1, .bool a.f7.f0, .string a.f7.f1, .int .i64 a.f8] := by
  obtain ⟨xs, n, _, _, hl, hx, hf⟩ := DataW.trod_struct Try.underlying31 h
  rw [show Try.prog.cellsOf 31 = 13 from by kernel_rfl] at hl
  match cs, hl with
  | [c0, c1, c2, c3, c4, c5, c6, c7, c8, c9, c10, c11, c12], _ =>
    match xs, hx with
    | [x0, x1, x2, x3, x4, x5, x6, x7, x8], _ =>
      have k3 : Try.prog.cellsOf 3 = 1 := by kernel_rfl
      have k24 : Try.prog.cellsOf 24 = 3 := by kernel_rfl
      have k29 : Try.prog.cellsOf 29 = 2 := by kernel_rfl
      have f0 := hf 0 _ rfl
      have f1 := hf 1 _ rfl
      have f2 := hf 2 _ rfl
      have f3 := hf 3 _ rfl
      have f4 := hf 4 _ rfl
      have f5 := hf 5 _ rfl
      have f6 := hf 6 _ rfl
      have f7 := hf 7 _ rfl
      have f8 := hf 8 _ rfl
      simp [k3, k24, k29] at f0 f1 f2 f3 f4 f5 f6 f7 f8
      obtain ⟨a0, h0, _, _⟩ := DataW.trod_int Try.underlying3 f0
      obtain ⟨a1, h1⟩ := txn_cells f1
      obtain ⟨a2, h2, _, _⟩ := DataW.trod_int Try.underlying3 f2
      obtain ⟨a3, h3, _, _⟩ := DataW.trod_int Try.underlying3 f3
      obtain ⟨a4, h4, _, _⟩ := DataW.trod_int Try.underlying3 f4
      obtain ⟨a5, h5, _, _⟩ := DataW.trod_int Try.underlying3 f5
      obtain ⟨a6, h6⟩ := slot_cells f6
      obtain ⟨a7, h7⟩ := slot_cells f7
      obtain ⟨a8, h8, _, _⟩ := DataW.trod_int Try.underlying3 f8
      simp at h0 h1 h2 h3 h4 h5 h6 h7 h8
      obtain ⟨h1, h1', h1''⟩ := h1
      obtain ⟨h6, h6'⟩ := h6
      obtain ⟨h7, h7'⟩ := h7
      subst h0 h1 h1' h1'' h2 h3 h4 h5 h6 h6' h7 h7' h8
      exact ⟨⟨a0, a1, a2, a3, a4, a5, a6, a7, a8⟩, rfl⟩

/-- The slice (a, len, cap) reads as l. -/
def EntriesIn (w : World) (a : Option Addr) (len cap : Nat) (l : List S31) : Prop := Kd.C k31 w a l.length l ∧ l.length = len ∧ len ≤ cap
theorem entries_of_trod {fuel : Nat} {a : Option Addr} {len cap : Nat} {x : DataW H × List MemPlace} (h : DataW.trod enc Try.prog w base spare held fuel 22 [.slice a len cap] = some x) : ∃ l, EntriesIn w a len cap l := by
  rcases Go.Deep.open_slice Try.underlying22 h with ⟨hc, _⟩ | ⟨ad, len', cap', m, n, D, Pl, hc, hb, hl, hm, hmm, _, hx⟩
  · simp at hc
    obtain ⟨rfl, rfl, rfl⟩ := hc
    exact ⟨[], ⟨rfl, by simp, fun h => absurd h (by simp)⟩, rfl, by omega⟩
  · simp at hc
    obtain ⟨rfl, rfl, rfl⟩ := hc
    have hlm : len ≤ m := by rw [hmm]; split <;> omega
    unfold maxLen at hm
    rw [show Try.prog.cellsOf 31 = 13 from by kernel_rfl] at hx
    have hg : ∀ i, i < len → ∃ g : S31, w.cells? base (ad.add (i * 13)) 13 = some [.int .i64 g.f0, .int .i64 g.f1.f0, .int .i64 g.f1.f1, .int .i64 g.f1.f2, .int .i64 g.f2, .int .i64 g.f3, .int .i64 g.f4, .int .i64 g.f5, .bool g.f6.f0, .string g.f6.f1, .bool g.f7.f0, .string g.f7.f1, .int .i64 g.f8] := fun i hi => by
      obtain ⟨cs', h1, h2⟩ := hx i (by omega)
      obtain ⟨g, rfl⟩ := entry_cells h2
      exact ⟨g, h1⟩
    have : Inhabited S31 := ⟨z31⟩
    obtain ⟨f, hf⟩ := Go.Deep.choose_lt hg
    refine ⟨(List.range len).map f, ⟨rfl, by simp; omega, fun h0 => ⟨ad, rfl, fun j p hj => ?_⟩⟩, by simp, hl⟩
    obtain ⟨hj', hp⟩ := List.getElem?_eq_some_iff.1 hj
    simp at hj' hp
    subst hp
    refine ⟨_, rfl, k31_mk w (f j), fun i u hu => ?_⟩
    have hi : i < 13 := (List.getElem?_eq_some_iff.1 hu).1
    obtain ⟨_, _, hcell⟩ := World.cells?_some (hf _ hj')
    have := hcell i hi
    rw [Go.Deep.add_add] at this
    show w.cell? (ad.add (j * 13 + i)) = _
    rw [this, hu]
end
end Go.Proofs.Ytianblmceohmnaa.Hand
