/- The walk of MistCounts: at every list of calls it returns true. -/
import Derived.Deep.RegionLaw
import Derived.Deep.RegionWith
import Derived.Deep.LoopGhost
import Derived.Deep.DeepCutAuto
import Derived.Deep.CutBlock
import Derived.BigRegion
import Derived.Outline
import Derived.Deep.RegionHeld3
import Derived.Test.YtgfklingekiflaaApart
namespace Go.Proofs.Ytgfklingekiflaa
open Go.RowKit Go.Shelf
set_option linter.unusedSimpArgs false

/-! ### A slice of calls that came in -/
structure Act8 where
  k : Int
  g : G
  t : Int

def Act8.cells (a : Act8) : List Value := .int .i64 a.k :: (a.g.cells ++ [.int .i64 a.t])
def Act8.ok (a : Act8) : Prop := a.g.ok ∧ (-9223372036854775808 ≤ a.t ∧ a.t ≤ 9223372036854775807)

structure ActsIn (w : World) (a : Option Addr) (len : Nat) (l : List Act8) : Prop where
  length : l.length = len
  small : len ≤ 9223372036854775807
  ok : ∀ g ∈ l, g.ok
  cells : 0 < len → ∃ b off, a = some ⟨b, off, none⟩ ∧ b < w.heap.size ∧ ∀ (i : Nat) (g : Act8), l[i]? = some g → ∀ (j : Nat) (u : Value), g.cells[j]? = some u → w.cell? ⟨b, off + (i * 8 + j), none⟩ = some u

section
variable {H : Type} {enc : TypeId × Value → H} {w : World} {base : Nat} {spare : Nat → Bool} {held : Bool}

theorem act_of_trod {fuel : Nat} {cs : List Value} {x : DataW H × List MemPlace} (h : DataW.trod enc Try.prog w base spare held fuel 44 cs = some x) : ∃ a : Act8, cs = a.cells ∧ a.ok := by
  obtain ⟨xs, n, _, _, hl, hx, hf⟩ := DataW.trod_struct Try.underlying44 h
  rw [show Try.prog.cellsOf 44 = 8 from by kernel_rfl] at hl
  match cs, hl with
  | [c0, c1, c2, c3, c4, c5, c6, c7], _ =>
    match xs, hx with
    | [x0, x1, x2], _ =>
      have k3 : Try.prog.cellsOf 3 = 1 := by kernel_rfl
      have k27 : Try.prog.cellsOf 27 = 6 := by kernel_rfl
      have f0 := hf 0 _ rfl
      have f1 := hf 1 _ rfl
      have f2 := hf 2 _ rfl
      simp [k3, k27] at f0 f1 f2
      obtain ⟨a0, h0, _, w0⟩ := DataW.trod_int Try.underlying3 f0
      obtain ⟨g, hg, hgok⟩ := gram_of_trod f1
      obtain ⟨a7, h7, _, w7⟩ := DataW.trod_int Try.underlying3 f2
      simp [G.cells] at h0 hg h7
      obtain ⟨rfl, rfl, rfl, rfl, rfl, rfl⟩ := hg
      subst h0 h7
      exact ⟨⟨a0, g, a7⟩, rfl, hgok, int_of_wf w7⟩

theorem acts_of_trod {fuel : Nat} {a : Option Addr} {len cap : Nat} {x : DataW H × List MemPlace} (h : DataW.trod enc Try.prog w base spare held fuel 40 [.slice a len cap] = some x) : ∃ l, ActsIn w a len l := by
  rcases Go.Deep.open_slice Try.underlying40 h with ⟨hc, _⟩ | ⟨ad, len', cap', m, n, D, Pl, hc, hb, hl, hm, hmm, _, hx⟩
  · simp at hc
    obtain ⟨rfl, rfl, rfl⟩ := hc
    exact ⟨[], ⟨rfl, by omega, by simp, fun h => absurd h (by omega)⟩⟩
  · simp at hc
    obtain ⟨rfl, rfl, rfl⟩ := hc
    have hlm : len ≤ m := by rw [hmm]; split <;> omega
    unfold maxLen at hm
    rw [show Try.prog.cellsOf 44 = 8 from by kernel_rfl] at hx
    have hg : ∀ i, i < len → ∃ g : Act8, w.cells? base (ad.add (i * 8)) 8 = some g.cells ∧ g.ok := fun i hi => by
      obtain ⟨cs', h1, h2⟩ := hx i (by omega)
      obtain ⟨g, rfl, hok⟩ := act_of_trod h2
      exact ⟨g, h1, hok⟩
    have : Inhabited Act8 := ⟨⟨0, G.zero, 0⟩⟩
    obtain ⟨f, hf⟩ := Go.Deep.choose_lt hg
    refine ⟨(List.range len).map f, ⟨by simp, by omega, ?_, fun h0 => ?_⟩⟩
    · intro g hgm
      simp at hgm
      obtain ⟨i, hi, rfl⟩ := hgm
      exact (hf i hi).2
    · obtain ⟨_, _, hcell⟩ := World.cells?_some (hf 0 h0).1
      have c0 : w.cell? ((ad.add (0 * 8)).add 0) = (f 0).cells[0]? := hcell 0 (by omega)
      rw [Go.Deep.add_add] at c0
      obtain ⟨b, off, spot⟩ := ad
      have h1 : w.cell? ⟨b, off, spot⟩ = some (.int .i64 (f 0).k) := by simpa [Addr.add, Act8.cells] using c0
      have hspot : spot = none := World.cell?_spot h1
      subst hspot
      refine ⟨b, off, rfl, World.block_lt_of_cell? w _ h1, fun i g hi j u hu => ?_⟩
      obtain ⟨hi', hgi⟩ := List.getElem?_eq_some_iff.1 hi
      simp at hi' hgi
      subst hgi
      have hj : j < 8 := (List.getElem?_eq_some_iff.1 hu).1
      obtain ⟨_, _, hcell⟩ := World.cells?_some (hf _ hi').1
      have := hcell j hj
      rw [Go.Deep.add_add, Go.WideShapes.add_plain] at this
      rw [this, hu]
end

theorem ActsIn.at {w W : World} {a : Option Addr} {len : Nat} {l : List Act8} (h : ActsIn w a len l) (hB : Below w.heap.size w W) {i : Nat} {x : Act8} (hi : l[i]? = some x) :
    ∃ b off, a = some ⟨b, off, none⟩ ∧ b < w.heap.size ∧ W.cell? ⟨b, off + i * 8, none⟩ = some (.int .i64 x.k) ∧ W.cell? ⟨b, off + i * 8 + 1, none⟩ = some (.int .i64 x.g.c) ∧ W.cell? ⟨b, off + i * 8 + 2, none⟩ = some (.bool x.g.u) ∧ W.cell? ⟨b, off + i * 8 + 3, none⟩ = some (.int .i64 x.g.e) ∧
      W.cell? ⟨b, off + i * 8 + 4, none⟩ = some (.int .i64 x.g.s) ∧ W.cell? ⟨b, off + i * 8 + 5, none⟩ = some (.int .i64 x.g.a) ∧ W.cell? ⟨b, off + i * 8 + 6, none⟩ = some (.string x.g.b) ∧ W.cell? ⟨b, off + i * 8 + 7, none⟩ = some (.int .i64 x.t) := by
  have hlt : i < len := by rw [← h.length]; exact (List.getElem?_eq_some_iff.1 hi).1
  obtain ⟨b, off, rfl, hb, hc⟩ := h.cells (by omega)
  refine ⟨b, off, rfl, hb, ?_⟩
  have key : ∀ j u, x.cells[j]? = some u → W.cell? ⟨b, off + i * 8 + j, none⟩ = some u := fun j u hu => by
    rw [Nat.add_assoc, hB.cell (p := ⟨b, off + (i * 8 + j), none⟩) hb]
    exact hc i x hi j u hu
  exact ⟨key 0 _ rfl, key 1 _ rfl, key 2 _ rfl, key 3 _ rfl, key 4 _ rfl, key 5 _ rfl, key 6 _ rfl, key 7 _ rfl⟩

/-! ### The counts -/
def wayN (u : Bool) : Nat := if u then 1 else 0
def ctr (l : List G) (c : Int) (u : Bool) : Value := .int .i64 ((wl l c u).length : Int)
def counts (l : List G) : Array Value := #[.int .i64 0, .int .i64 0, ctr l 1 false, ctr l 1 true, ctr l 2 false, ctr l 2 true, ctr l 3 false, ctr l 3 true]

theorem counts_at (l : List G) {d : Nat} (h1 : 1 ≤ d) (h3 : d ≤ 3) (u : Bool) : (counts l)[d * 2 + wayN u]? = some (ctr l (d : Int) u) := by
  have : d = 1 ∨ d = 2 ∨ d = 3 := by omega
  rcases this with rfl | rfl | rfl <;> cases u <;> rfl

/-- One way's count has turned. -/
theorem counts_set {l l' : List G} {d : Nat} (h1 : 1 ≤ d) (h3 : d ≤ 3) (u : Bool) (ho : ∀ (c : Int) (v : Bool), c ≠ (d : Int) ∨ v ≠ u → wl l' c v = wl l c v) :
    (counts l).setIfInBounds (d * 2 + wayN u) (ctr l' (d : Int) u) = counts l' := by
  have key : ∀ (c : Int) (v : Bool), c ≠ (d : Int) ∨ v ≠ u → ctr l c v = ctr l' c v := fun c v h => by unfold ctr; rw [ho c v h]
  have : d = 1 ∨ d = 2 ∨ d = 3 := by omega
  unfold counts
  rcases this with rfl | rfl | rfl <;> cases u <;> simp [wayN] <;> (repeat' constructor) <;> (first | rfl | (apply key; simp))

/-- The call's own net and its table of counts. -/
structure Half (w0 W : World) (b1 cb : Nat) (v1 : Value) (l l0 : List G) : Prop where
  net : NetAt w0.heap.size W b1 v1 l
  below : Below w0.heap.size w0 W
  le : w0.heap.size ≤ cb
  ne : cb ≠ b1
  nev : v1.ownBlock ≠ some cb
  tab : W.heap[cb]? = some (.cells (counts l0) 42 (0, 0))

/-- What holds of a list between two calls. -/
structure Well (l : List G) (n : Nat) : Prop where
  three : ∀ g ∈ l, 1 ≤ g.c ∧ g.c ≤ 3
  most : ∀ (c : Int) (u : Bool), (wl l c u).length ≤ 64
  len : l.length ≤ n

theorem Half.step {w0 W W' : World} {b1 cb : Nat} {v1 : Value} {l l0 : List G} (h : Half w0 W b1 cb v1 l l0) (hb : Below W.heap.size W W') : Half w0 W' b1 cb v1 l l0 :=
  ⟨h.net.below hb, h.below.trans (hb.mono h.below.size), h.le, h.ne, h.nev, (hb.block cb (Array.getElem?_eq_some_iff.1 h.tab).1).trans h.tab⟩

theorem Half.post {w0 W W' : World} {b1 cb : Nat} {v1 : Value} {l l0 l' : List G} (h : Half w0 W b1 cb v1 l l0) (hp : NetPost w0.heap.size W b1 v1 l' W') : ∃ v', Half w0 W' b1 cb v' l' l0 := by
  have hb := NetPost.below h.net hp
  have hlt := (Array.getElem?_eq_some_iff.1 h.tab).1
  obtain ⟨v', g1, g2, g3⟩ := hp
  refine ⟨v', g1, h.below.trans hb, h.le, h.ne, ?_, (g2.block cb hlt h.ne h.nev).trans h.tab⟩
  rcases g3 with g3 | g3
  · rw [g3]; exact h.nev
  · intro e; have := g3 cb e; omega

/-- The table has been brought up to date. -/
theorem Half.turn {w0 W : World} {b1 cb : Nat} {v1 : Value} {l l0 : List G} (h : Half w0 W b1 cb v1 l l0) {d : Nat} (h1 : 1 ≤ d) (h3 : d ≤ 3) (u : Bool) (ho : ∀ (c : Int) (v : Bool), c ≠ (d : Int) ∨ v ≠ u → wl l c v = wl l0 c v) :
    Half w0 (W.setCell ⟨cb, d * 2 + wayN u, none⟩ (ctr l (d : Int) u)) b1 cb v1 l l := by
  refine ⟨h.net.same (Below.heap_setCell _ _ _ _ (Ne.symm h.ne)) (fun k hk => Below.heap_setCell _ _ _ _ (fun e => h.nev (hk.trans (congrArg some e)))), ?_, h.le, h.ne, h.nev, ?_⟩
  · exact h.below.trans ⟨rfl, rfl, rfl, by simp [World.setCell], fun k hk => Below.heap_setCell _ _ _ _ (fun (e : k = cb) => by have := h.le; omega)⟩
  · rw [← counts_set h1 h3 u ho]
    have ht := h.tab
    obtain ⟨hlt, hget⟩ := Array.getElem?_eq_some_iff.1 ht
    simp [World.setCell, Array.getElem?_modify, ht]

theorem Half.cell {w0 W : World} {b1 cb : Nat} {v1 : Value} {l l0 : List G} (h : Half w0 W b1 cb v1 l l0) {d : Nat} (h1 : 1 ≤ d) (h3 : d ≤ 3) (u : Bool) : W.cell? ⟨cb, d * 2 + wayN u, none⟩ = some (.int .i64 ((wl l0 (d : Int) u).length : Int)) := by
  have := counts_at l0 h1 h3 u
  simp [World.cell?, h.tab, this, ctr]

theorem Well.put {l : List G} {n : Nat} {g : G} (h : Well l n) (h1 : 1 ≤ g.c ∧ g.c ≤ 3) (hc : putCode l g = 0) : Well (l ++ [g]) (n + 1) ∧ (wl (l ++ [g]) g.c g.u).length = (wl l g.c g.u).length + 1 ∧ ∀ c v, c ≠ g.c ∨ v ≠ g.u → wl (l ++ [g]) c v = wl l c v := by
  have e1 : (wl (l ++ [g]) g.c g.u).length = (wl l g.c g.u).length + 1 := by rw [wl_put]; simp [isWay]
  have e2 : ∀ c v, c ≠ g.c ∨ v ≠ g.u → wl (l ++ [g]) c v = wl l c v := fun c v hne => by
    rw [wl_put]
    have : isWay c v g = false := by
      simp only [isWay, Bool.and_eq_false_iff, beq_eq_false_iff_ne]
      rcases hne with h | h
      · exact .inl (Ne.symm h)
      · exact .inr (Ne.symm h)
    simp [this]
  have e3 : cnt l g.c g.u < 64 := by
    unfold putCode at hc
    split at hc
    · cases hc
    · split at hc
      · cases hc
      · omega
  rw [cnt_wl] at e3
  refine ⟨⟨?_, fun c v => ?_, by simp; exact h.len⟩, e1, e2⟩
  · intro y hy
    rcases List.mem_append.1 hy with hy | hy
    · exact h.three y hy
    · simp at hy; subst hy; exact h1
  · by_cases hne : c ≠ g.c ∨ v ≠ g.u
    · rw [e2 c v hne]; exact h.most c v
    · have hc' : c = g.c := Classical.byContradiction fun h => hne (.inl h)
      have hv' : v = g.u := Classical.byContradiction fun h => hne (.inr h)
      subst hc' hv'
      rw [e1]; omega

theorem Well.pull {l : List G} {n : Nat} {d : Int} {u : Bool} {t : Int} {x : G} (h : Well l n) (hx : pullG l (plOf l d u t) = some x) :
    Well (pullL l (plOf l d u t)) (n + 1) ∧ (wl (pullL l (plOf l d u t)) d u).length + 1 = (wl l d u).length ∧ ∀ c v, c ≠ d ∨ v ≠ u → wl (pullL l (plOf l d u t)) c v = wl l c v := by
  have e2 : ∀ c v, c ≠ d ∨ v ≠ u → wl (pullL l (plOf l d u t)) c v = wl l c v := fun c v hne => pull_other l d u t c v hne
  have e1 : (wl (pullL l (plOf l d u t)) d u).length + 1 = (wl l d u).length := by
    rw [pull_way] at hx
    rw [pull_same]
    split at hx
    · rename_i ht
      rw [if_pos ht]
      have := (List.getElem?_eq_some_iff.1 hx).1
      rw [List.length_eraseIdx, if_pos this]; omega
    · cases hx
  have hl := pullL_length_le l (plOf l d u t)
  refine ⟨⟨?_, fun c v => ?_, by have := h.len; omega⟩, e1, e2⟩
  · intro y hy
    refine h.three y ?_
    unfold pullL at hy
    split at hy
    · exact List.mem_of_mem_eraseIdx hy
    · exact hy
  · by_cases hne : c ≠ d ∨ v ≠ u
    · rw [e2 c v hne]; exact h.most c v
    · have hc' : c = d := Classical.byContradiction fun h => hne (.inl h)
      have hv' : v = u := Classical.byContradiction fun h => hne (.inr h)
      subst hc' hv'
      have := h.most c v
      omega

theorem pull_no {l : List G} {i : Int} (h : pullG l i = none) : pullL l i = l := by
  unfold pullG at h; unfold pullL
  split
  · rename_i h0
    rw [if_pos h0] at h
    exact List.eraseIdx_of_length_le (List.getElem?_eq_none_iff.1 h)
  · rfl

theorem Well.more {l : List G} {n : Nat} (h : Well l n) : Well l (n + 1) := ⟨h.three, h.most, Nat.le_succ_of_le h.len⟩

theorem eldest_pull {l : List G} {x : G} (h : pullG l 0 = some x) : plOf l x.c x.u 0 = 0 := by
  cases l with
  | nil => simp [pullG] at h
  | cons y m =>
    simp [pullG] at h
    subst h
    have := plc_cons_hit (pre := []) (post := m) (c := y.c) (u := y.u) (x := y) (by simp) (by simp [isWay])
    simp at this
    unfold plOf nth
    simp [this]

theorem copy_some {l : List G} {d : Int} {u : Bool} {t : Int} (h : copyB l d u t = true) : ∃ g, copyL l d u t = l ++ [g] ∧ putCode l g = 0 ∧ g.c = d ∧ g.u = u ∧ g ∈ l := by
  unfold copyB at h
  unfold copyL
  cases hp : pullG l (plOf l d u t) with
  | none => simp [hp] at h
  | some g =>
    rw [hp] at h
    have hz : putCode l g = 0 := by simpa using h
    rw [pull_way] at hp
    split at hp
    · have hm := way_of_wl (List.mem_of_getElem? hp)
      have hw := isWay_iff.1 hm.2
      exact ⟨g, by simp [putList, hz], hz, hw.1, hw.2, hm.1⟩
    · cases hp

theorem copy_no {l : List G} {d : Int} {u : Bool} {t : Int} (h : copyB l d u t = false) : copyL l d u t = l := by
  unfold copyB at h
  unfold copyL
  cases hp : pullG l (plOf l d u t) with
  | none => rfl
  | some g =>
    rw [hp] at h
    have hz : putCode l g ≠ 0 := by simpa using h
    simp [putList, hz]

theorem Half.frozen {w0 W : World} {b1 cb : Nat} {v1 : Value} {l l0 : List G} (h : Half w0 W b1 cb v1 l l0) (o : Nat) : W.frozen? ⟨cb, o, none⟩ = false := by simp [World.frozen?, h.tab]

/-- .. and with the draw of the region. -/
theorem Half.turned {w0 W : World} {b1 cb : Nat} {v1 : Value} {l l0 : List G} (h : Half w0 W b1 cb v1 l l0) {d : Nat} (h1 : 1 ≤ d) (h3 : d ≤ 3) (u : Bool) (n : Int) (hn : n = ((wl l (d : Int) u).length : Int)) (ho : ∀ (c : Int) (v : Bool), c ≠ (d : Int) ∨ v ≠ u → wl l c v = wl l0 c v) :
    Half w0 ((W.setCell ⟨cb, d * 2 + wayN u, none⟩ (.int .i64 n)).drew) b1 cb v1 l l := by
  subst hn
  exact (h.turn h1 h3 u ho).step ((Below.refl _ _).drew)

/-- The state with the round's own gram. -/
structure Hg (w0 W : World) (b1 cb : Nat) (v1 : Value) (l l0 : List G) (gb : Nat) (d : Int) (u : Bool) : Prop where
  h : Half w0 W b1 cb v1 l l0
  lt : gb < W.heap.size
  ne : gb ≠ b1
  nev : v1.ownBlock ≠ some gb
  c0 : W.cell? ⟨gb, 0, none⟩ = some (.int .i64 d)
  c1 : W.cell? ⟨gb, 1, none⟩ = some (.bool u)

theorem Hg.step {w0 W W' : World} {b1 cb : Nat} {v1 : Value} {l l0 : List G} {gb : Nat} {d : Int} {u : Bool} (h : Hg w0 W b1 cb v1 l l0 gb d u) (hb : Below W.heap.size W W') : Hg w0 W' b1 cb v1 l l0 gb d u :=
  ⟨h.h.step hb, Nat.lt_of_lt_of_le h.lt hb.size, h.ne, h.nev, (World.cell?_of_block (hb.block gb h.lt)).trans h.c0, (World.cell?_of_block (hb.block gb h.lt)).trans h.c1⟩

theorem Hg.post {w0 W W' : World} {b1 cb : Nat} {v1 : Value} {l l0 l' : List G} {gb : Nat} {d : Int} {u : Bool} (h : Hg w0 W b1 cb v1 l l0 gb d u) (hp : NetPost w0.heap.size W b1 v1 l' W') : ∃ v', Hg w0 W' b1 cb v' l' l0 gb d u := by
  have hlt := (Array.getElem?_eq_some_iff.1 h.h.tab).1
  have hb := NetPost.below h.h.net hp
  obtain ⟨v', g1, g2, g3⟩ := hp
  refine ⟨v', ⟨g1, h.h.below.trans hb, h.h.le, h.h.ne, ?_, (g2.block cb hlt h.h.ne h.h.nev).trans h.h.tab⟩, Nat.lt_of_lt_of_le h.lt g2.size, h.ne, ?_, (World.cell?_of_block (g2.block gb h.lt h.ne h.nev)).trans h.c0, (World.cell?_of_block (g2.block gb h.lt h.ne h.nev)).trans h.c1⟩
  · rcases g3 with g3 | g3
    · rw [g3]; exact h.h.nev
    · intro e; have := g3 cb e; omega
  · rcases g3 with g3 | g3
    · rw [g3]; exact h.nev
    · intro e; have := g3 gb e; have := h.lt; omega

def Limbs (W : World) (gb : Nat) (d : Int) (u : Bool) (b o : Nat) (t : Int) : Prop := W.cell? ⟨gb, 0, none⟩ = some (.int .i64 d) ∧ W.cell? ⟨gb, 1, none⟩ = some (.bool u) ∧ W.cell? ⟨b, o, none⟩ = some (.int .i64 t)
theorem Hg.limbs {w0 W : World} {b1 cb : Nat} {v1 : Value} {l l0 : List G} {gb : Nat} {d : Int} {u : Bool} (h : Hg w0 W b1 cb v1 l l0 gb d u) {b o : Nat} {t : Int} (hc : ∀ W, Below w0.heap.size w0 W → W.cell? ⟨b, o, none⟩ = some (.int .i64 t)) :
    W.cell? ⟨gb, 0, none⟩ = some (.int .i64 d) ∧ W.cell? ⟨gb, 1, none⟩ = some (.bool u) ∧ W.cell? ⟨b, o, none⟩ = some (.int .i64 t) := ⟨h.c0, h.c1, hc W h.h.below⟩
theorem Half.start {w w1 : World} (hb : Below w.heap.size w w1) :
    Half w ((w1.alloc (.cells #[.slice none 0 0] 53)).alloc (.cells #[.int .i64 0, .int .i64 0, .int .i64 0, .int .i64 0, .int .i64 0, .int .i64 0, .int .i64 0, .int .i64 0] 42)) w1.heap.size (w1.heap.size + 1) (.slice none 0 0) [] [] := by
  have hsz := hb.size
  have x1 := World.alloc_heap_new w1 (.cells #[.slice none 0 0] 53)
  have x3 := World.alloc_heap_new (w1.alloc (.cells #[.slice none 0 0] 53)) (.cells #[.int .i64 0, .int .i64 0, .int .i64 0, .int .i64 0, .int .i64 0, .int .i64 0, .int .i64 0, .int .i64 0] 42)
  simp only [World.size_alloc] at x3
  refine ⟨⟨hsz, ?_, World.ownsRow_nil _ _ _ _⟩, ?_, by omega, by omega, by simp [Value.ownBlock], ?_⟩
  · rw [Below.heap_alloc _ _ _ (by simp)]; exact x1
  · exact hb.trans (((Below.refl _ w1).alloc (Nat.le_refl _) _).alloc (by simp) _ |>.mono hsz)
  · rw [x3]; rfl

set_option maxHeartbeats 8000000 in
set_option maxRecDepth 100000 in
theorem counts_walk (w : World) (a : Option Addr) (len cap : Nat) (xs : List Act8) (hin : ActsIn w a len xs) :
    Calls Try.prog 5 #[.slice a len cap] w fun e w' => e = .returned (.bool true) ∧ Below w.heap.size w w' := by
  have hlen := hin.length
  have hsmall := hin.small
  go_enter Try.func5, Try.ntmps5
  go_wp2_with fail
  refine (awake_any _).mono ?_
  rintro e w1 ⟨rfl, hb1⟩
  go_wp2_with fail
  refine (new_any _).mono ?_
  rintro e w2 ⟨rfl, rfl⟩
  go_wp2_with fail
  have hst := Half.start hb1
  generalize ((w1.alloc (.cells #[.slice none 0 0] 53)).alloc (.cells #[.int .i64 0, .int .i64 0, .int .i64 0, .int .i64 0, .int .i64 0, .int .i64 0, .int .i64 0, .int .i64 0] 42)) = W at *
  generalize w1.heap.size + 1 = cb at *
  generalize w1.heap.size = b1 at *
  clear hb1
  go_loopw [5] (fun iv wr => ∃ (i : Nat) (v1 : Value) (l : List G), iv = .int .i64 i ∧ i ≤ len ∧ i ≤ 200 ∧ Hid (Half w wr b1 cb v1 l l) ∧ Hid (Well l i)) (fun iv _ => 200 - (intOf iv).toNat)
  case atStart => exact ⟨0, _, [], rfl, by omega, by omega, hst, ⟨by simp, by simp [wl], by simp⟩⟩
  case round =>
    obtain ⟨i, v1, l, rfl, hil, hi2, hs, hwl⟩ := hrel
    by_cases hlt : i < len ∧ i < 200
    · obtain ⟨hlt, hlt2⟩ := hlt
      obtain ⟨x, hx⟩ : ∃ x, xs[i]? = some x := ⟨xs[i], by simp⟩
      obtain ⟨k, ⟨gc, u, ge, gs, ga, gt⟩, t⟩ := x
      obtain ⟨b, off, rfl, hbw, c0, c1, c2, c3, c4, c5, c6, c7⟩ := hin.at hs.out.below hx
      have hxok := (hin.ok _ (List.mem_of_getElem? hx)).1.1
      have HT := Lib.hid (hin.ok _ (List.mem_of_getElem? hx)).2
      dsimp only at c0 c1 c2 c3 c4 c5 c6 c7 hxok HT
      by_cases h12 : 4096 < gt.size
      · go_wp2_with fail
        go_ret
        exact ⟨rfl, (hs.out.step ((Below.refl _ _).alloc (Nat.le_refl _) _)).below⟩
      · go_upto_region 12 with fail
        obtain ⟨hd1, hd3⟩ := third_range gc
        generalize wrap64 (1 + wrap64 ((IntKind.u64.wrap gc).tmod 3)) = d0 at *
        obtain ⟨d, rfl⟩ : ∃ d : Nat, d0 = (d : Int) := ⟨d0.toNat, by omega⟩
        obtain ⟨X, hX⟩ : ∃ X, X = (wr.alloc (.cells #[.int .i64 (d : Int), .bool u, .int .i64 ge, .int .i64 gs, .int .i64 ga, .string gt] 27)) := ⟨_, rfl⟩
        have hXB : Below wr.heap.size wr X := by rw [hX]; exact (Below.refl _ _).alloc (Nat.le_refl _) _
        have hXb : X.heap[wr.heap.size]? = some (.cells #[.int .i64 (d : Int), .bool u, .int .i64 ge, .int .i64 gs, .int .i64 ga, .string gt] 27 (0, 0)) := by rw [hX]; exact World.alloc_heap_new _ _
        rw [← hX]
        have HS := Lib.hid (hs.out.step hXB)
        have hgx : wr.heap.size < X.heap.size := (Array.getElem?_eq_some_iff.1 hXb).1
        have hbx : b < X.heap.size := Nat.lt_of_lt_of_le hbw HS.out.below.size
        have hgn : wr.heap.size ≠ b1 ∧ v1.ownBlock ≠ some wr.heap.size := ⟨by have := hs.out.net.lt; omega, fun e => by have := (hs.out.net.row.lt _ e).2; omega⟩
        have e0 := cell_of_row X _ 0 _ _ _ hXb
        have e1 := cell_of_row X _ 1 _ _ _ hXb
        have e2 := cell_of_row X _ 2 _ _ _ hXb
        have e3 := cell_of_row X _ 3 _ _ _ hXb
        have e4 := cell_of_row X _ 4 _ _ _ hXb
        have e5 := cell_of_row X _ 5 _ _ _ hXb
        simp only [List.getElem?_toArray, List.getElem?_cons_zero, List.getElem?_cons_succ] at e0 e1 e2 e3 e4 e5
        have HB := Lib.hid (NetAt.lt HS.out.net)
        have HG := Lib.hid hgn
        clear hXb c0 c1 c2 c3 c4 c5 c6 c7 hs hX hxok h12 hXB hgn
        obtain ⟨b', off', hbb, _, c0, _, _, _, _, _, _, c7⟩ := hin.at HS.out.below hx
        simp only [Option.some.injEq, Addr.mk.injEq, and_true] at hbb
        obtain ⟨rfl, rfl⟩ := hbb
        generalize wr.heap.size = gb at *
        have HX := Lib.hid hx
        clear hx
        dsimp only at c0 c7
        have HC : Hid (∀ W, Below w.heap.size w W → W.cell? ⟨b, off + i * 8 + 7, none⟩ = some (.int .i64 t)) := fun W hW => by
          obtain ⟨b', off', hbb, _, _, _, _, _, _, _, _, c7⟩ := hin.at hW HX.out
          simp only [Option.some.injEq, Addr.mk.injEq, and_true] at hbb
          obtain ⟨rfl, rfl⟩ := hbb
          exact c7
        go_upto_if 45 with fail
        go_cut [7] (fun wv wx => wv = .int .i64 (wayN u : Int) ∧ X = wx)
        case first => cases u <;> (go_wp2_with fail; go_meet; exact ⟨rfl, rfl⟩)
        case rest =>
          obtain ⟨rfl, rfl⟩ := hcut
          have hw0 : wayN u ≤ 1 := by unfold wayN; split <;> omega
          go_upto_block 2 with fail
          go_cut [5] (fun iv wx => ∃ (v : Value) (l' : List G), iv = .int .i64 i ∧ Hid (Half w wx b1 cb v l' l') ∧ Hid (Well l' (i + 1)))
          case first =>
            by_cases hk1 : k = 1
            · as_aux_lemma =>
                subst hk1
                go_wp2_with fail
                by_cases hc : putCode l ⟨d, u, ge, gs, ga, gt⟩ = 0
                · refine (put_any _ _ _ l ⟨d, u, ge, gs, ga, gt⟩ _ HS.out.net (by have := hwl.out.len; omega)).mono ?_
                  rintro e w4 ⟨rfl, hp⟩
                  have hpl : putList l ⟨d, u, ge, gs, ga, gt⟩ = l ++ [⟨d, u, ge, gs, ga, gt⟩] := by simp [putList, hc]
                  rw [hpl] at hp
                  have f0 : w4.cell? ⟨gb, 0, none⟩ = some (.int .i64 (d : Int)) := by
                    obtain ⟨_, _, h2, _⟩ := hp
                    exact (World.cell?_of_block (h2.block gb hgx HG.out.1 HG.out.2)).trans e0
                  obtain ⟨hW, hlen1, hoth⟩ := hwl.out.put ⟨hd1, hd3⟩ hc
                  obtain ⟨v', hs4⟩ := HS.out.post hp
                  have f1 := hs4.cell (d := d) (by omega) (by omega) u
                  have f2 := hs4.frozen (d * 2 + wayN u)
                  rw [hc]
                  have HS4 := Lib.hid hs4
                  have HL := Lib.hid hlen1
                  have HO := Lib.hid hoth
                  have HW := Lib.hid hW
                  clear hp hs4 hlen1 hoth hc hpl HS e0 e1 e2 e3 e4 e5 c0 c7 hW
                  go_wp2_with fail
                  go_region
                  have hT := HS4.out.turned (d := d) (by omega) (by omega) u (wrap64 ((wl l (d : Int) u).length + 1)) (by
                    have h1 := HL.out
                    have h2 := hwl.out.most d u
                    rw [h1]
                    unfold wrap64
                    omega) HO.out
                  have HT := Lib.hid hT
                  clear hT f0 f1 f2 HS4
                  go_wp2_with fail
                  go_meet
                  case rel => exact ⟨_, _, rfl, HT.out, HW.out⟩
                · obtain ⟨pc, hpc⟩ : ∃ pc, pc = putCode l ⟨d, u, ge, gs, ga, gt⟩ := ⟨_, rfl⟩
                  refine (put_any _ _ _ l ⟨d, u, ge, gs, ga, gt⟩ _ HS.out.net (by have := hwl.out.len; omega)).mono ?_
                  rintro e w4 ⟨rfl, hp⟩
                  have hpl : putList l ⟨d, u, ge, gs, ga, gt⟩ = l := by simp [putList, hc]
                  rw [hpl] at hp
                  obtain ⟨v', hs4⟩ := HS.out.post hp
                  rw [← hpc] at hc ⊢
                  have hcb : (pc == 0) = false := by simpa using hc
                  have HS4 := Lib.hid hs4
                  clear hp hs4 hc hpl hpc HS e0 e1 e2 e3 e4 e5 c0 c7
                  go_wp2_with fail
                  go_meet
                  case rel => exact ⟨_, _, rfl, HS4.out, hwl.out.more⟩
            · by_cases hk2 : k = 2
              · as_aux_lemma =>
                  subst hk2
                  clear hk1
                  have HGg : Hid (Hg w X b1 cb v1 l l gb (d : Int) u) := ⟨HS.out, hgx, HG.out.1, HG.out.2, e0, e1⟩
                  clear HS HG e2 e3 e4 e5 c7
                  have hln : l.length ≤ 1000000 := by have := hwl.out.len; omega
                  go_upto_region 20 with fail
                  go_cut [9] (fun yv wx => ∃ (v : Value) (y : Bool), yv = .bool y ∧ Hid (Hg w wx b1 cb v (pullL l (plOf l (d : Int) u t)) l gb (d : Int) u) ∧ Hid (y = (pullG l (plOf l (d : Int) u t)).isSome))
                  case first =>
                    have HG0 : Hid (Hg w X.drew b1 cb v1 l l gb (d : Int) u) := HGg.out.step (Below.refl _ _).drew
                    have HG1 : Hid (∀ o, Hg w (X.alloc o).drew b1 cb v1 l l gb (d : Int) u) := fun o => HG0.out.step (show Below X.drew.heap.size X.drew (X.drew.alloc o) from (Below.refl _ _).alloc (Nat.le_refl _) o)
                    go_region_held3 (fun W => W.cell? ⟨gb, 0, none⟩ = some (.int .i64 d) ∧ W.cell? ⟨gb, 1, none⟩ = some (.bool u) ∧ W.cell? ⟨b, off + i * 8 + 7, none⟩ = some (.int .i64 t))
                      (first | with_reducible exact HGg.out.limbs HC.out | with_reducible exact HG0.out.limbs HC.out | with_reducible exact (HG1.out _).limbs HC.out | with_reducible exact HK.out.limbs HC.out | with_reducible exact (HK1.out _).limbs HC.out | with_reducible exact (HK2.out _ _ _ _ _ _).choose_spec.limbs HC.out | go_keep)
                      (first | (go_at_call 11; refine (pick_any _ _ _ _ (d : Int) u t _ HT.out.1 HT.out.2 HG0.out.h.net hln).mono ?_; intro e w4 hpp; obtain ⟨x4, y4, hx4, hy4, rfl, hp⟩ := pullpost_ret hpp; obtain ⟨v4, hk4⟩ := HG0.out.post hp; have HK := Lib.hid hk4; have HY := Lib.hid hy4; have HK1 : Hid (∀ o, Hg w (w4.alloc o) b1 cb v4 (pullL l (plOf l (d : Int) u t)) l gb (d : Int) u) := fun o => hk4.step ((Below.refl _ _).alloc (Nat.le_refl _) o); clear hpp hx4 hy4 hp hk4) | (go_at_call 11; refine (pick_any _ _ _ _ (d : Int) u t _ HT.out.1 HT.out.2 (HG1.out _).h.net hln).mono ?_; intro e w4 hpp; obtain ⟨x4, y4, hx4, hy4, rfl, hp⟩ := pullpost_ret hpp; obtain ⟨d2, hl2⟩ := hp.there HG0.out.h.net; replace d2 : w4.heap[X.heap.size]? = _ := d2; have q0 := cell_of_row w4 _ 0 _ _ _ d2; have q1 := cell_of_row w4 _ 1 _ _ _ d2; have q2 := cell_of_row w4 _ 2 _ _ _ d2; have q3 := cell_of_row w4 _ 3 _ _ _ d2; have q4 := cell_of_row w4 _ 4 _ _ _ d2; have q5 := cell_of_row w4 _ 5 _ _ _ d2; have q6 : ∀ o, w4.frozen? ⟨X.heap.size, o, none⟩ = false := fun o => frozen_at d2; obtain ⟨v4, hk4⟩ := (HG1.out _).post hp; have HK := Lib.hid hk4; have HK2 : Hid (∀ a0 a1 a2 a3 a4 a5, ∃ v, Hg w ((((((w4.setCell ⟨X.heap.size, 0, none⟩ a0).setCell ⟨X.heap.size, 1, none⟩ a1).setCell ⟨X.heap.size, 2, none⟩ a2).setCell ⟨X.heap.size, 3, none⟩ a3).setCell ⟨X.heap.size, 4, none⟩ a4).setCell ⟨X.heap.size, 5, none⟩ a5) b1 cb v (pullL l (plOf l (d : Int) u t)) l gb (d : Int) u) := fun a0 a1 a2 a3 a4 a5 => HG0.out.post (hp.box HG0.out.h.net [a0, a1, a2, a3, a4, a5]); have HY := Lib.hid hy4; clear hpp hx4 hy4 hp hk4))
                    · go_wp2_with fail
                      go_meet
                      case rel => exact ⟨v4, y4, rfl, HK1.out _, HY.out⟩
                    · go_wp2_with fail
                      go_meet
                      case rel =>
                        obtain ⟨v5, hv5⟩ := HK2.out _ _ _ _ _ _
                        exact ⟨v5, y4, rfl, hv5, HY.out⟩
                  case rest =>
                    obtain ⟨v5, y, rfl, HK, HY⟩ := hcut
                    clear HGg e0 e1 c0
                    cases hp : pullG l (plOf l (d : Int) u t) with
                    | none =>
                      have hy : y = false := by rw [HY.out, hp]; rfl
                      subst hy
                      have hl := pull_no hp
                      have HF : Hid (Half w wc b1 cb v5 l l) := by have := HK.out.h; rw [hl] at this; exact this
                      clear hp hl HK HY
                      go_wp2_with fail
                      go_meet
                      case rel => exact ⟨_, _, rfl, HF.out, hwl.out.more⟩
                    | some x =>
                      have hy : y = true := by rw [HY.out, hp]; rfl
                      subst hy
                      obtain ⟨hW, hlen1, hoth⟩ := hwl.out.pull hp
                      have HF := Lib.hid HK.out.h
                      have f0 := HK.out.c0
                      have f1 := HF.out.cell (d := d) (by omega) (by omega) u
                      have f2 := HF.out.frozen (d * 2 + wayN u)
                      have HL := Lib.hid hlen1
                      have HO := Lib.hid hoth
                      have HW := Lib.hid hW
                      clear hp HK HY hW hlen1 hoth
                      go_wp2_with fail
                      go_region
                      have hT := HF.out.turned (d := d) (by omega) (by omega) u (wrap64 ((wl l (d : Int) u).length - 1)) (by
                        have h1 := HL.out
                        have h2 := hwl.out.most d u
                        unfold wrap64
                        omega) HO.out
                      have HT := Lib.hid hT
                      clear hT f0 f1 f2 HF
                      go_wp2_with fail
                      go_meet
                      case rel => exact ⟨_, _, rfl, HT.out, HW.out⟩
              · by_cases hk3 : k = 3
                · as_aux_lemma =>
                    subst hk3
                    clear hk1 hk2
                    have HGg : Hid (Hg w X b1 cb v1 l l gb (d : Int) u) := ⟨HS.out, hgx, HG.out.1, HG.out.2, e0, e1⟩
                    clear HS HG e2 e3 e4 e5 c7
                    have hln : l.length ≤ 1000000 := by have := hwl.out.len; omega
                    go_upto_region 24 with fail
                    go_cut [104] (fun yv wx => ∃ (v : Value), yv = .bool (copyB l (d : Int) u t) ∧ Hid (Hg w wx b1 cb v (copyL l (d : Int) u t) l gb (d : Int) u))
                    case first =>
                      have HG0 : Hid (Hg w X.drew b1 cb v1 l l gb (d : Int) u) := HGg.out.step (Below.refl _ _).drew
                      go_region_held3 (fun W => W.cell? ⟨gb, 0, none⟩ = some (.int .i64 d) ∧ W.cell? ⟨gb, 1, none⟩ = some (.bool u) ∧ W.cell? ⟨b, off + i * 8 + 7, none⟩ = some (.int .i64 t))
                        (first | with_reducible exact HGg.out.limbs HC.out | with_reducible exact HG0.out.limbs HC.out | with_reducible exact HK.out.limbs HC.out | go_keep)
                        (first | (go_at_call 15; refine (copy_any _ _ _ _ (d : Int) u t _ HT.out.1 HT.out.2 HG0.out.h.net hln).mono ?_; rintro e w4 ⟨rfl, hp⟩; obtain ⟨v4, hk4⟩ := HG0.out.post hp; have HK := Lib.hid hk4; clear hp hk4))
                      go_wp2_with fail
                      go_meet
                      case rel => exact ⟨v4, rfl, HK.out⟩
                    case rest =>
                      obtain ⟨v5, rfl, HK⟩ := hcut
                      clear HGg e0 e1 c0
                      cases hp : copyB l (d : Int) u t with
                      | false =>
                        have hl := copy_no hp
                        have HF : Hid (Half w wc b1 cb v5 l l) := by have := HK.out.h; rw [hl] at this; exact this
                        clear hp hl HK
                        go_wp2_with fail
                        go_meet
                        case rel => exact ⟨_, _, rfl, HF.out, hwl.out.more⟩
                      | true =>
                        obtain ⟨g, hl, hz, hgc, hgu, _⟩ := copy_some hp
                        obtain ⟨hW, hlen1, hoth⟩ := hwl.out.put (g := g) (by rw [hgc]; exact ⟨hd1, hd3⟩) hz
                        rw [hgc, hgu] at hlen1 hoth
                        have hk := HK.out
                        rw [hl] at hk
                        have HF := Lib.hid hk.h
                        have f0 := hk.c0
                        have f1 := HF.out.cell (d := d) (by omega) (by omega) u
                        have f2 := HF.out.frozen (d * 2 + wayN u)
                        have HL := Lib.hid hlen1
                        have HO := Lib.hid hoth
                        have HW := Lib.hid hW
                        clear hp HK hW hlen1 hoth hk hgc hgu hl hz
                        go_wp2_with fail
                        go_region
                        have hT := HF.out.turned (d := d) (by omega) (by omega) u (wrap64 ((wl l (d : Int) u).length + 1)) (by
                          have h1 := HL.out
                          have h2 := hwl.out.most d u
                          rw [h1]
                          unfold wrap64
                          omega) HO.out
                        have HT := Lib.hid hT
                        clear hT f0 f1 f2 HF
                        go_wp2_with fail
                        go_meet
                        case rel => exact ⟨_, _, rfl, HT.out, HW.out⟩
                · by_cases hk4 : k = 4
                  · as_aux_lemma =>
                      subst hk4
                      clear hk1 hk2 hk3
                      have hln : l.length ≤ 1000000 := by have := hwl.out.len; omega
                      clear e0 e1 e2 e3 e4 e5 c7
                      go_wp2_with fail
                      refine (eldest_any _ _ _ l _ HS.out.net).mono ?_
                      intro e w4 hpp
                      obtain ⟨x4, y4, hx4, hy4, rfl, hp⟩ := pullpost_ret hpp
                      obtain ⟨v4, hs4⟩ := HS.out.post hp
                      clear hpp hp HS
                      cases hq : pullG l 0 with
                      | none =>
                        obtain rfl : y4 = false := by rw [hy4, hq]; rfl
                        rw [pull_no hq] at hs4
                        have HF := Lib.hid hs4
                        clear hs4 hq hy4 hx4
                        go_wp2_with fail
                        go_meet
                        case rel => exact ⟨_, _, rfl, HF.out.step ((Below.refl _ _).alloc (Nat.le_refl _) _), hwl.out.more⟩
                      | some x =>
                        obtain rfl : y4 = true := by rw [hy4, hq]; rfl
                        obtain rfl : x4 = x := by rw [hx4, hq]; rfl
                        have hm : x4 ∈ l := by
                          unfold pullG at hq
                          rw [if_pos (by decide)] at hq
                          exact List.mem_of_getElem? hq
                        obtain ⟨hq1, hq3⟩ := hwl.out.three x4 hm
                        have hep := eldest_pull hq
                        have hpw := hwl.out.pull (d := x4.c) (u := x4.u) (t := 0) (x := x4) (by rw [hep]; exact hq)
                        rw [hep] at hpw
                        obtain ⟨hW, hlen1, hoth⟩ := hpw
                        obtain ⟨xc, xu, xe, xs', xa, xb⟩ := x4
                        dsimp only at hq1 hq3 hlen1 hoth
                        obtain ⟨d2, rfl⟩ : ∃ d2 : Nat, xc = (d2 : Int) := ⟨xc.toNat, by omega⟩
                        have HF := Lib.hid hs4
                        have HL := Lib.hid hlen1
                        have HO := Lib.hid hoth
                        have HW := Lib.hid hW
                        clear hs4 hq hx4 hy4 hm hep hW hlen1 hoth
                        go_upto_if 123 with fail
                        obtain ⟨Y, hY⟩ : ∃ Y, Y = w4.alloc (.cells #[.int .i64 (d2 : Int), .bool xu, .int .i64 xe, .int .i64 xs', .int .i64 xa, .string xb] 27) := ⟨_, rfl⟩
                        have hYB : Below w4.heap.size w4 Y := by rw [hY]; exact (Below.refl _ _).alloc (Nat.le_refl _) _
                        have hYb : Y.heap[w4.heap.size]? = some (.cells #[.int .i64 (d2 : Int), .bool xu, .int .i64 xe, .int .i64 xs', .int .i64 xa, .string xb] 27 (0, 0)) := by rw [hY]; exact World.alloc_heap_new _ _
                        rw [← hY]
                        have HF2 := Lib.hid (HF.out.step hYB)
                        have f0 := cell_of_row Y _ 0 _ _ _ hYb
                        simp only [List.getElem?_toArray, List.getElem?_cons_zero] at f0
                        have f1 := HF2.out.cell (d := d2) (by omega) (by omega) xu
                        have f2 := HF2.out.frozen (d2 * 2 + wayN xu)
                        clear hYb hY hYB HF
                        generalize w4.heap.size = hb at *
                        go_cut [12] (fun wv wx => wv = .int .i64 (wayN xu : Int) ∧ Y = wx)
                        case first => cases xu <;> (go_wp2_with fail; go_meet; exact ⟨rfl, rfl⟩)
                        case rest =>
                          obtain ⟨rfl, rfl⟩ := hcut
                          have hw2 : wayN xu ≤ 1 := by unfold wayN; split <;> omega
                          go_wp2_with fail
                          go_region
                          have hT := HF2.out.turned (d := d2) (by omega) (by omega) xu (wrap64 ((wl l (d2 : Int) xu).length - 1)) (by
                            have h1 := HL.out
                            have h2 := hwl.out.most d2 xu
                            unfold wrap64
                            omega) HO.out
                          have HT := Lib.hid hT
                          clear hT f0 f1 f2 HF2
                          go_wp2_with fail
                          go_meet
                          case rel => exact ⟨_, _, rfl, HT.out, HW.out⟩
                  · have hb1 : (k == 1) = false := by simpa using hk1
                    have hb2 : (k == 2) = false := by simpa using hk2
                    have hb3 : (k == 3) = false := by simpa using hk3
                    have hb4 : (k == 4) = false := by simpa using hk4
                    clear hk1 hk2 hk3 hk4
                    go_wp2_with fail
                    go_meet
                    case rel => exact ⟨_, _, rfl, HS.out, hwl.out.more⟩
          case rest => as_aux_lemma =>
              obtain ⟨v, l', rfl, hs2, hw2⟩ := hcut
              clear HS HB HG e0 e1 e2 e3 e4 e5 c0 c7 hwl HC HT hgx hd1 hd3 hw0
              have hln : l'.length ≤ 1000000 := by have := hw2.out.len; omega
              go_wp2_with fail
              go_loopw [13] (fun cv wr => ∃ c : Nat, cv = .int .i64 c ∧ 1 ≤ c ∧ c ≤ 4 ∧ Hid (Half w wr b1 cb v l' l')) (fun cv _ => 4 - (intOf cv).toNat)
              case atStart => exact ⟨1, rfl, by omega, by omega, hs2⟩
              case round =>
                obtain ⟨c, rfl, hc1, hc4, hs3⟩ := hrel
                by_cases hc3 : c ≤ 3
                · obtain ⟨n0, h0⟩ : ∃ n0, n0 = (wl l' (c : Int) false).length := ⟨_, rfl⟩
                  obtain ⟨n1, h1⟩ : ∃ n1, n1 = (wl l' (c : Int) true).length := ⟨_, rfl⟩
                  have HP : Hid (∀ W, Half w W b1 cb v l' l' → W.cell? ⟨cb, c * 2, none⟩ = some (.int .i64 (n0 : Int)) ∧ W.cell? ⟨cb, c * 2 + 1, none⟩ = some (.int .i64 (n1 : Int))) := fun W h => by
                    rw [h0, h1]; exact ⟨h.cell hc1 hc3 false, h.cell hc1 hc3 true⟩
                  have hm0 := hw2.out.most c false
                  have hm1 := hw2.out.most c true
                  have HN0 : Hid (cnt l' c false = n0) := (cnt_wl l' c false).trans h0.symm
                  have HN1 : Hid (cnt l' c true = n1) := (cnt_wl l' c true).trans h1.symm
                  rw [← h0] at hm0
                  rw [← h1] at hm1
                  clear h0 h1
                  have hg0 : decide ((64 : Int) < (n0 : Int)) = false := by simp; omega
                  have hg1 : decide ((64 : Int) < (n1 : Int)) = false := by simp; omega
                  have hci0 : (0 : Int) ≤ (c : Int) := by omega
                  have hci : (c : Int) < 4 := by omega
                  obtain ⟨f0, f1⟩ := HP.out _ hs3.out
                  clear hm0 hm1
                  go_upto_region 38 with fail
                  go_cut [176] (fun bv wx => bv = .bool false ∧ Hid (Half w wx b1 cb v l' l'))
                  case first =>
                    have HF := hs3
                    have HF0 : Hid (Half w wr.drew b1 cb v l' l') := hs3.out.step (Below.refl _ _).drew
                    go_region_held3 (fun W => W.cell? ⟨cb, c * 2, none⟩ = some (.int .i64 (n0 : Int)) ∧ W.cell? ⟨cb, c * 2 + 1, none⟩ = some (.int .i64 (n1 : Int)))
                      (first | with_reducible exact HP.out _ hs3.out | with_reducible exact HP.out _ HF0.out | with_reducible exact HP.out _ HF1.out | with_reducible exact HP.out _ HF2.out | go_keep)
                      (first | (go_at_call 13; refine (count_any w.heap.size b1 v l' (c : Int) _ _ (by first | with_reducible exact HF1.out.net | with_reducible exact HF0.out.net) hln).mono ?_; rintro e w4 ⟨rfl, hb4⟩; (first | rw [HN0.out] | rw [HN1.out]); (first | (have HF2 := Lib.hid (HF1.out.step hb4)) | (have HF1 := Lib.hid (HF0.out.step hb4))); clear hb4))
                    go_wp2_with fail
                    go_meet
                    case rel => exact ⟨by simp [hg0, hg1], HF2.out⟩
                  case rest =>
                    obtain ⟨rfl, HF⟩ := hcut
                    clear hs3 HP HN0 HN1 hg0 hg1 f0 f1 hci0 hci
                    go_wp2
                    go_roundw
                    case rel => exact ⟨c + 1, by simp, by omega, by omega, HF.out⟩
                    case measure => simp [intOf]; omega
                · obtain rfl : c = 4 := by omega
                  clear hc3 hc1 hc4
                  go_wp2
                  go_roundw
                  case rel => exact ⟨i + 1, _, _, by simp, by omega, by omega, hs3.out, hw2.out⟩
                  case measure => simp [intOf]; omega
    · have hcs : (i < len ∧ i = 200) ∨ len ≤ i := by omega
      have hB := Lib.hid hs.out.below
      clear hlt
      rcases hcs with ⟨hq1, hq2⟩ | hq1
      all_goals
        go_wp2_with fail
        go_ret
        exact ⟨rfl, hB.out⟩
end Go.Proofs.Ytgfklingekiflaa
