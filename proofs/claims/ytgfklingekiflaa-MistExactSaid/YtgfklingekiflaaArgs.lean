/- A slice of datagrams that came in, read; two nets and a slice of the call's own; the plain law of MistOrder. -/
import Derived.Deep.RegionLaw
import Derived.Deep.LoopGhost
import Derived.ProofKit
import Derived.OpenShut
import Derived.Deep.Slices
import Derived.Test.YtgfklingekiflaaAwake
namespace Go.Proofs.Ytgfklingekiflaa
open Go.RowKit Go.Shelf Go.OpenShut
set_option linter.unusedSimpArgs false

/-! ### A slice of datagrams that came in -/
def G.ok (g : G) : Prop := (-9223372036854775808 ≤ g.c ∧ g.c ≤ 9223372036854775807) ∧ g.b.size ≤ maxLen

/-- The slice (a, len) reads as l. -/
structure GramsIn (w : World) (a : Option Addr) (len : Nat) (l : List G) : Prop where
  length : l.length = len
  small : len ≤ 9223372036854775807
  ok : ∀ g ∈ l, g.ok
  cells : 0 < len → ∃ b off, a = some ⟨b, off, none⟩ ∧ b < w.heap.size ∧ ∀ (i : Nat) (g : G), l[i]? = some g → ∀ (j : Nat) (u : Value), g.cells[j]? = some u → w.cell? ⟨b, off + (i * 6 + j), none⟩ = some u

theorem int_of_wf {n : Int} (h : (Lit.int .i64 n).wf = true) : -9223372036854775808 ≤ n ∧ n ≤ 9223372036854775807 := by
  exact bounds_i64 h

section
variable {H : Type} {enc : TypeId × Value → H} {P : Program} {w : World} {base : Nat} {spare : Nat → Bool} {held : Bool}

/-- A datagram out of its six cells. -/
theorem gram_of_trod {fuel : Nat} {cs : List Value} {x : DataW H × List MemPlace} (h : DataW.trod enc Try.prog w base spare held fuel 27 cs = some x) : ∃ g : G, cs = g.cells ∧ g.ok := by
  obtain ⟨xs, n, _, _, hl, hx, hf⟩ := DataW.trod_struct Try.underlying27 h
  rw [show Try.prog.cellsOf 27 = 6 from by kernel_rfl] at hl
  match cs, hl with
  | [c0, c1, c2, c3, c4, c5], _ =>
    match xs, hx with
    | [x0, x1, x2, x3, x4, x5], _ =>
      have k3 : Try.prog.cellsOf 3 = 1 := by kernel_rfl
      have k4 : Try.prog.cellsOf 4 = 1 := by kernel_rfl
      have k9 : Try.prog.cellsOf 9 = 1 := by kernel_rfl
      have f0 := hf 0 _ rfl
      have f1 := hf 1 _ rfl
      have f2 := hf 2 _ rfl
      have f3 := hf 3 _ rfl
      have f4 := hf 4 _ rfl
      have f5 := hf 5 _ rfl
      simp [k3, k4, k9] at f0 f1 f2 f3 f4 f5
      obtain ⟨a0, h0, _, w0⟩ := DataW.trod_int Try.underlying3 f0
      obtain ⟨a1, h1, _⟩ := DataW.trod_bool Try.underlying4 f1
      obtain ⟨a2, h2, _, _⟩ := DataW.trod_int Try.underlying3 f2
      obtain ⟨a3, h3, _, _⟩ := DataW.trod_int Try.underlying3 f3
      obtain ⟨a4, h4, _, _⟩ := DataW.trod_int Try.underlying3 f4
      obtain ⟨a5, h5, _, w5⟩ := DataW.trod_string Try.underlying9 f5
      simp at h0 h1 h2 h3 h4 h5
      subst h0 h1 h2 h3 h4 h5
      exact ⟨⟨a0, a1, a2, a3, a4, a5⟩, rfl, int_of_wf w0, w5⟩

theorem grams_of_trod {fuel : Nat} {a : Option Addr} {len cap : Nat} {x : DataW H × List MemPlace} (h : DataW.trod enc Try.prog w base spare held fuel 22 [.slice a len cap] = some x) : ∃ l, GramsIn w a len l := by
  rcases Go.Deep.open_slice Try.underlying22 h with ⟨hc, _⟩ | ⟨ad, len', cap', m, n, D, Pl, hc, hb, hl, hm, hmm, _, hx⟩
  · simp at hc
    obtain ⟨rfl, rfl, rfl⟩ := hc
    exact ⟨[], ⟨rfl, by omega, by simp, fun h => absurd h (by omega)⟩⟩
  · simp at hc
    obtain ⟨rfl, rfl, rfl⟩ := hc
    have hlm : len ≤ m := by rw [hmm]; split <;> omega
    unfold maxLen at hm
    rw [show Try.prog.cellsOf 27 = 6 from by kernel_rfl] at hx
    have hg : ∀ i, i < len → ∃ g : G, w.cells? base (ad.add (i * 6)) 6 = some g.cells ∧ g.ok := fun i hi => by
      obtain ⟨cs', h1, h2⟩ := hx i (by omega)
      obtain ⟨g, rfl, hok⟩ := gram_of_trod h2
      exact ⟨g, h1, hok⟩
    have : Inhabited G := ⟨G.zero⟩
    obtain ⟨f, hf⟩ := Go.Deep.choose_lt hg
    refine ⟨(List.range len).map f, ⟨by simp, by omega, ?_, fun h0 => ?_⟩⟩
    · intro g hgm
      simp at hgm
      obtain ⟨i, hi, rfl⟩ := hgm
      exact (hf i hi).2
    · obtain ⟨_, _, hcell⟩ := World.cells?_some (hf 0 h0).1
      have c0 : w.cell? ((ad.add (0 * 6)).add 0) = (f 0).cells[0]? := hcell 0 (by omega)
      rw [Go.Deep.add_add] at c0
      obtain ⟨b, off, spot⟩ := ad
      have hspot : spot = none := by
        have h1 : w.cell? ⟨b, off, spot⟩ = some (.int .i64 (f 0).c) := by simpa [Addr.add, G.cells] using c0
        exact World.cell?_spot h1
      subst hspot
      refine ⟨b, off, rfl, ?_, fun i g hi j u hu => ?_⟩
      · have h1 : w.cell? ⟨b, off, none⟩ = some (.int .i64 (f 0).c) := by simpa [Addr.add, G.cells] using c0
        exact World.block_lt_of_cell? w _ h1
      · obtain ⟨hi', hgi⟩ := List.getElem?_eq_some_iff.1 hi
        simp at hi' hgi
        subst hgi
        have hj : j < 6 := (List.getElem?_eq_some_iff.1 hu).1
        obtain ⟨_, _, hcell⟩ := World.cells?_some (hf _ hi').1
        have := hcell j hj
        rw [Go.Deep.add_add, Go.WideShapes.add_plain] at this
        rw [this, hu]
end

theorem GramsIn.at {w W : World} {a : Option Addr} {len : Nat} {l : List G} (h : GramsIn w a len l) (hB : Below w.heap.size w W) {i : Nat} {x : G} (hi : l[i]? = some x) :
    ∃ b off, a = some ⟨b, off, none⟩ ∧ b < w.heap.size ∧ W.cell? ⟨b, off + i * 6, none⟩ = some (.int .i64 x.c) ∧ W.cell? ⟨b, off + i * 6 + 1, none⟩ = some (.bool x.u) ∧ W.cell? ⟨b, off + i * 6 + 2, none⟩ = some (.int .i64 x.e) ∧
      W.cell? ⟨b, off + i * 6 + 3, none⟩ = some (.int .i64 x.s) ∧ W.cell? ⟨b, off + i * 6 + 4, none⟩ = some (.int .i64 x.a) ∧ W.cell? ⟨b, off + i * 6 + 5, none⟩ = some (.string x.b) := by
  have hlt : i < len := by rw [← h.length]; exact (List.getElem?_eq_some_iff.1 hi).1
  obtain ⟨b, off, rfl, hb, hc⟩ := h.cells (by omega)
  refine ⟨b, off, rfl, hb, ?_⟩
  have key : ∀ j u, x.cells[j]? = some u → W.cell? ⟨b, off + i * 6 + j, none⟩ = some u := fun j u hu => by
    rw [Nat.add_assoc, hB.cell (p := ⟨b, off + (i * 6 + j), none⟩) hb]
    exact hc i x hi j u hu
  exact ⟨key 0 _ rfl, key 1 _ rfl, key 2 _ rfl, key 3 _ rfl, key 4 _ rfl, key 5 _ rfl⟩

/-! ### Two nets and a slice of the call's own -/
structure St (w0 W : World) (b1 b2 : Nat) (v1 v2 : Value) (l1 l2 : List G) (vs : Value) (ls : List G) : Prop where
  n1 : NetAt w0.heap.size W b1 v1 l1
  n2 : NetAt w0.heap.size W b2 v2 l2
  s : W.ownsRow w0.heap.size 27 6 vs ls.length (rows ls)
  below : Below w0.heap.size w0 W
  b12 : b1 ≠ b2
  v12 : ∀ k, v1.ownBlock = some k → v2.ownBlock ≠ some k
  v1s : ∀ k, v1.ownBlock = some k → vs.ownBlock ≠ some k
  v2s : ∀ k, v2.ownBlock = some k → vs.ownBlock ≠ some k

section
variable {w0 W W' : World} {b1 b2 : Nat} {v1 v2 vs : Value} {l1 l2 ls l' : List G}

theorem St.step (h : St w0 W b1 b2 v1 v2 l1 l2 vs ls) (hb : Below W.heap.size W W') : St w0 W' b1 b2 v1 v2 l1 l2 vs ls :=
  ⟨h.n1.below hb, h.n2.below hb, ownsRow_same h.s (fun k hk => hb.block k (h.s.lt k hk).2), h.below.trans (hb.mono h.below.size), h.b12, h.v12, h.v1s, h.v2s⟩

theorem NetAt.box_ne {base : Nat} {b : Nat} {v : Value} {l : List G} {n : Nat} {xs : List Value} {u : Value} (h : NetAt base W b v l) (hr : W.ownsRow base 27 6 u n xs) : u.ownBlock ≠ some b :=
  fun e => (show Boxed W b 53 v from h.box).not_row (by decide) hr e.symm

theorem St.net1 (h : St w0 W b1 b2 v1 v2 l1 l2 vs ls) (hp : NetPost w0.heap.size W b1 v1 l' W') : ∃ v', St w0 W' b1 b2 v' v2 l' l2 vs ls := by
  have hb := NetPost.below h.n1 hp
  obtain ⟨v', g1, g2, g3⟩ := hp
  have hold : ∀ k, k < W.heap.size → v1.ownBlock ≠ some k → v'.ownBlock ≠ some k := fun k hk hne e => by
    rcases g3 with g3 | g3
    · exact hne (g3 ▸ e)
    · have := g3 k e; omega
  refine ⟨v', g1, h.n2.same (g2.block b2 h.n2.lt h.b12.symm (h.n2.box_ne h.n1.row)) (fun k hk => g2.block k (h.n2.row.lt k hk).2 (fun e => h.n1.box_ne h.n2.row (e ▸ hk)) (fun e => h.v12 k e hk)),
    ownsRow_same h.s (fun k hk => g2.block k (h.s.lt k hk).2 (fun e => h.n1.box_ne h.s (e ▸ hk)) (fun e => h.v1s k e hk)), h.below.trans hb, h.b12, fun k e e2 => ?_, fun k e e2 => ?_, h.v2s⟩
  · exact hold k (h.n2.row.lt k e2).2 (fun e1 => h.v12 k e1 e2) e
  · exact hold k (h.s.lt k e2).2 (fun e1 => h.v1s k e1 e2) e

theorem St.swap (h : St w0 W b1 b2 v1 v2 l1 l2 vs ls) : St w0 W b2 b1 v2 v1 l2 l1 vs ls :=
  ⟨h.n2, h.n1, h.s, h.below, h.b12.symm, fun k e2 e1 => h.v12 k e1 e2, h.v2s, h.v1s⟩

theorem St.net2 (h : St w0 W b1 b2 v1 v2 l1 l2 vs ls) (hp : NetPost w0.heap.size W b2 v2 l' W') : ∃ v', St w0 W' b1 b2 v1 v' l1 l' vs ls := by
  obtain ⟨v', h'⟩ := h.swap.net1 hp
  exact ⟨v', h'.swap⟩

theorem St.app (h : St w0 W b1 b2 v1 v2 l1 l2 vs ls) {X : World} {g cap n : Nat} {x : G} (hX : Below W.heap.size W X) (hr : W'.ownsRow w0.heap.size 27 6 (.slice (some ⟨g, 0, none⟩) n cap) n (rows ls ++ rows [x])) (hg : X.grownBy W' vs.ownBlock) (hat : vs.ownBlock = some g ∨ g = X.heap.size) (hn : n = ls.length + 1) :
    St w0 W' b1 b2 v1 v2 l1 l2 (.slice (some ⟨g, 0, none⟩) n cap) (ls ++ [x]) := by
  subst hn
  have hX' := h.step hX
  have keep : ∀ k, k < X.heap.size → vs.ownBlock ≠ some k → W'.heap[k]? = X.heap[k]? := fun k hk hne => hg.block k hk (fun e => hne e.symm)
  have n1 := hX'.n1.same (keep b1 hX'.n1.lt (hX'.n1.box_ne hX'.s)) (fun k hk => keep k (hX'.n1.row.lt k hk).2 (h.v1s k hk))
  have n2 := hX'.n2.same (keep b2 hX'.n2.lt (hX'.n2.box_ne hX'.s)) (fun k hk => keep k (hX'.n2.row.lt k hk).2 (h.v2s k hk))
  refine ⟨n1, n2, by simpa [rows] using hr, hX'.below.trans ?_, h.b12, h.v12, fun k e e2 => ?_, fun k e e2 => ?_⟩
  · exact ⟨hg.os, hg.tape, hg.output, hg.size, fun k hk => keep k (Nat.lt_of_lt_of_le hk hX'.below.size) (fun e => by have := (hX'.s.lt k e).1; omega)⟩
  · have e2 : g = k := by simpa [Value.ownBlock] using e2
    subst e2
    rcases hat with e3 | e3
    · exact h.v1s g e e3
    · have := (hX'.n1.row.lt g e).2; omega
  · have e2 : g = k := by simpa [Value.ownBlock] using e2
    subst e2
    rcases hat with e3 | e3
    · exact h.v2s g e e3
    · have := (hX'.n2.row.lt g e).2; omega
end

/-! ### The plain law of MistOrder -/
def mid (l : List G) (c : Int) (u : Bool) (i : Nat) : List G := (l.take i).filter (fun g => !isWay c u g) ++ l.drop i

theorem plc_cons_hit {pre post : List G} {c : Int} {u : Bool} {x : G} (hpre : ∀ g ∈ pre, isWay c u g = false) (hx : isWay c u x = true) : (plc (pre ++ x :: post) c u (pre ++ x :: post).length)[0]? = some pre.length := by
  have h : (plc (pre ++ x :: post) c u (pre ++ x :: post).length).head? = some pre.length := by
    unfold plc
    rw [List.head?_filter, List.find?_range_eq_some]
    refine ⟨?_, ?_, fun j hj => ?_⟩
    · simp [hit, hx]
    · simp
    · have : (pre ++ x :: post)[j]? = some pre[j] := by rw [List.getElem?_append_left hj]; simp
      simp [hit, this, hpre pre[j] (List.getElem_mem hj)]
  rw [List.head?_eq_getElem?] at h
  exact h

theorem plc_none {l : List G} {c : Int} {u : Bool} (h : ∀ g ∈ l, isWay c u g = false) (k : Nat) : plc l c u k = [] := by
  unfold plc
  rw [List.filter_eq_nil_iff]
  intro i _
  unfold hit
  cases hi : l[i]? with
  | none => simp
  | some g => simp [h g (List.mem_of_getElem? hi)]

theorem mid_hit {l : List G} {c : Int} {u : Bool} {i : Nat} {x : G} (hi : l[i]? = some x) (hx : isWay c u x = true) :
    plOf (mid l c u i) c u 0 = (((l.take i).filter (fun g => !isWay c u g)).length : Int) ∧ pullG (mid l c u i) (plOf (mid l c u i) c u 0) = some x ∧ pullL (mid l c u i) (plOf (mid l c u i) c u 0) = mid l c u (i + 1) := by
  have hlt := (List.getElem?_eq_some_iff.1 hi).1
  have hxe := (List.getElem?_eq_some_iff.1 hi).2
  have hd : l.drop i = x :: l.drop (i + 1) := by rw [List.drop_eq_getElem_cons hlt, hxe]
  have hm : mid l c u i = (l.take i).filter (fun g => !isWay c u g) ++ x :: l.drop (i + 1) := by unfold mid; rw [hd]
  have hpre : ∀ g ∈ (l.take i).filter (fun g => !isWay c u g), isWay c u g = false := by
    intro g hg
    have := (List.mem_filter.1 hg).2
    simpa using this
  have hp := plc_cons_hit (post := l.drop (i + 1)) hpre hx
  have h1 : plOf (mid l c u i) c u 0 = (((l.take i).filter (fun g => !isWay c u g)).length : Int) := by
    unfold plOf nth
    rw [if_pos (by omega), hm]
    simp only [Int.toNat_zero]
    rw [hp]
  refine ⟨h1, ?_, ?_⟩
  · rw [h1, hm]; simp [pullG]
  · rw [h1, hm]
    simp only [pullL, Int.toNat_natCast]
    rw [if_pos (by omega), List.eraseIdx_append_of_length_le (by omega)]
    simp
    unfold mid
    rw [List.take_add_one, hi]
    simp [hx]

theorem mid_miss {l : List G} {c : Int} {u : Bool} {i : Nat} {x : G} (hi : l[i]? = some x) (hx : isWay c u x = false) : mid l c u (i + 1) = mid l c u i := by
  have hlt := (List.getElem?_eq_some_iff.1 hi).1
  have hxe := (List.getElem?_eq_some_iff.1 hi).2
  unfold mid
  rw [List.take_add_one, hi, List.drop_eq_getElem_cons hlt, hxe]
  simp [hx]

theorem mid_end (l : List G) (c : Int) (u : Bool) : plOf (mid l c u l.length) c u 0 = -1 := by
  have : ∀ g ∈ mid l c u l.length, isWay c u g = false := by
    intro g hg
    simp [mid] at hg
    exact hg.2
  unfold plOf
  rw [plc_none this]
  rfl

theorem drop_pull {l : List G} {i : Nat} {x : G} (hi : l[i]? = some x) : pullG (l.drop i) 0 = some x ∧ pullL (l.drop i) 0 = l.drop (i + 1) := by
  have hlt := (List.getElem?_eq_some_iff.1 hi).1
  have hxe := (List.getElem?_eq_some_iff.1 hi).2
  rw [List.drop_eq_getElem_cons hlt, hxe]
  simp [pullG, pullL]
end Go.Proofs.Ytgfklingekiflaa
