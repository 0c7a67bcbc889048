/- A slice of calls that came in, read. -/
import Derived.Test.YtgfklingekiflaaArgs
namespace Go.Proofs.Ytgfklingekiflaa
open Go.RowKit Go.Shelf Go.OpenShut
set_option linter.unusedSimpArgs false
set_option linter.unusedVariables false

/-! ### A slice of calls that came in -/
structure Act8 where
  k : Int
  g : G
  t : Int

def Act8.cells (a : Act8) : List Value := .int .i64 a.k :: (a.g.cells ++ [.int .i64 a.t])
def Act8.ok (a : Act8) : Prop := a.g.ok ∧ (-9223372036854775808 ≤ a.t ∧ a.t ≤ 9223372036854775807)

structure ActsIn (w : World) (a : Option Addr) (len : Nat) (l : List Act8) : Prop where
  length : l.length = len
  small : len ≤ 9223372036854775807
  ok : ∀ g ∈ l, g.ok
  cells : 0 < len → ∃ b off, a = some ⟨b, off, none⟩ ∧ b < w.heap.size ∧ ∀ (i : Nat) (g : Act8), l[i]? = some g → ∀ (j : Nat) (u : Value), g.cells[j]? = some u → w.cell? ⟨b, off + (i * 8 + j), none⟩ = some u

section
variable {H : Type} {enc : TypeId × Value → H} {w : World} {base : Nat} {spare : Nat → Bool} {held : Bool}

theorem act_of_trod {fuel : Nat} {cs : List Value} {x : DataW H × List MemPlace} (h : DataW.trod enc Try.prog w base spare held fuel 44 cs = some x) : ∃ a : Act8, cs = a.cells ∧ a.ok := by
  obtain ⟨xs, n, _, _, hl, hx, hf⟩ := DataW.trod_struct Try.underlying44 h
  rw [show Try.prog.cellsOf 44 = 8 from by kernel_rfl] at hl
  match cs, hl with
  | [c0, c1, c2, c3, c4, c5, c6, c7], _ =>
    match xs, hx with
    | [x0, x1, x2], _ =>
      have k3 : Try.prog.cellsOf 3 = 1 := by kernel_rfl
      have k27 : Try.prog.cellsOf 27 = 6 := by kernel_rfl
      have f0 := hf 0 _ rfl
      have f1 := hf 1 _ rfl
      have f2 := hf 2 _ rfl
      simp [k3, k27] at f0 f1 f2
      obtain ⟨a0, h0, _, w0⟩ := DataW.trod_int Try.underlying3 f0
      obtain ⟨g, hg, hgok⟩ := gram_of_trod f1
      obtain ⟨a7, h7, _, w7⟩ := DataW.trod_int Try.underlying3 f2
      simp [G.cells] at h0 hg h7
      obtain ⟨rfl, rfl, rfl, rfl, rfl, rfl⟩ := hg
      subst h0 h7
      exact ⟨⟨a0, g, a7⟩, rfl, hgok, int_of_wf w7⟩

theorem acts_of_trod {fuel : Nat} {a : Option Addr} {len cap : Nat} {x : DataW H × List MemPlace} (h : DataW.trod enc Try.prog w base spare held fuel 40 [.slice a len cap] = some x) : ∃ l, ActsIn w a len l := by
  rcases Go.Deep.open_slice Try.underlying40 h with ⟨hc, _⟩ | ⟨ad, len', cap', m, n, D, Pl, hc, hb, hl, hm, hmm, _, hx⟩
  · simp at hc
    obtain ⟨rfl, rfl, rfl⟩ := hc
    exact ⟨[], ⟨rfl, by omega, by simp, fun h => absurd h (by omega)⟩⟩
  · simp at hc
    obtain ⟨rfl, rfl, rfl⟩ := hc
    have hlm : len ≤ m := by rw [hmm]; split <;> omega
    unfold maxLen at hm
    rw [show Try.prog.cellsOf 44 = 8 from by kernel_rfl] at hx
    have hg : ∀ i, i < len → ∃ g : Act8, w.cells? base (ad.add (i * 8)) 8 = some g.cells ∧ g.ok := fun i hi => by
      obtain ⟨cs', h1, h2⟩ := hx i (by omega)
      obtain ⟨g, rfl, hok⟩ := act_of_trod h2
      exact ⟨g, h1, hok⟩
    have : Inhabited Act8 := ⟨⟨0, G.zero, 0⟩⟩
    obtain ⟨f, hf⟩ := Go.Deep.choose_lt hg
    refine ⟨(List.range len).map f, ⟨by simp, by omega, ?_, fun h0 => ?_⟩⟩
    · intro g hgm
      simp at hgm
      obtain ⟨i, hi, rfl⟩ := hgm
      exact (hf i hi).2
    · obtain ⟨_, _, hcell⟩ := World.cells?_some (hf 0 h0).1
      have c0 : w.cell? ((ad.add (0 * 8)).add 0) = (f 0).cells[0]? := hcell 0 (by omega)
      rw [Go.Deep.add_add] at c0
      obtain ⟨b, off, spot⟩ := ad
      have h1 : w.cell? ⟨b, off, spot⟩ = some (.int .i64 (f 0).k) := by simpa [Addr.add, Act8.cells] using c0
      have hspot : spot = none := World.cell?_spot h1
      subst hspot
      refine ⟨b, off, rfl, World.block_lt_of_cell? w _ h1, fun i g hi j u hu => ?_⟩
      obtain ⟨hi', hgi⟩ := List.getElem?_eq_some_iff.1 hi
      simp at hi' hgi
      subst hgi
      have hj : j < 8 := (List.getElem?_eq_some_iff.1 hu).1
      obtain ⟨_, _, hcell⟩ := World.cells?_some (hf _ hi').1
      have := hcell j hj
      rw [Go.Deep.add_add, Go.WideShapes.add_plain] at this
      rw [this, hu]
end

theorem ActsIn.at {w W : World} {a : Option Addr} {len : Nat} {l : List Act8} (h : ActsIn w a len l) (hB : Below w.heap.size w W) {i : Nat} {x : Act8} (hi : l[i]? = some x) :
    ∃ b off, a = some ⟨b, off, none⟩ ∧ b < w.heap.size ∧ W.cell? ⟨b, off + i * 8, none⟩ = some (.int .i64 x.k) ∧ W.cell? ⟨b, off + i * 8 + 1, none⟩ = some (.int .i64 x.g.c) ∧ W.cell? ⟨b, off + i * 8 + 2, none⟩ = some (.bool x.g.u) ∧ W.cell? ⟨b, off + i * 8 + 3, none⟩ = some (.int .i64 x.g.e) ∧
      W.cell? ⟨b, off + i * 8 + 4, none⟩ = some (.int .i64 x.g.s) ∧ W.cell? ⟨b, off + i * 8 + 5, none⟩ = some (.int .i64 x.g.a) ∧ W.cell? ⟨b, off + i * 8 + 6, none⟩ = some (.string x.g.b) ∧ W.cell? ⟨b, off + i * 8 + 7, none⟩ = some (.int .i64 x.t) := by
  have hlt : i < len := by rw [← h.length]; exact (List.getElem?_eq_some_iff.1 hi).1
  obtain ⟨b, off, rfl, hb, hc⟩ := h.cells (by omega)
  refine ⟨b, off, rfl, hb, ?_⟩
  have key : ∀ j u, x.cells[j]? = some u → W.cell? ⟨b, off + i * 8 + j, none⟩ = some u := fun j u hu => by
    rw [Nat.add_assoc, hB.cell (p := ⟨b, off + (i * 8 + j), none⟩) hb]
    exact hc i x hi j u hu
  exact ⟨key 0 _ rfl, key 1 _ rfl, key 2 _ rfl, key 3 _ rfl, key 4 _ rfl, key 5 _ rfl, key 6 _ rfl, key 7 _ rfl⟩

end Go.Proofs.Ytgfklingekiflaa
