/- A net and the reference's net of one law, and what a round has besides. -/
import Derived.Deep.LoopGhost
import Derived.Test.YtgfklingekiflaaAll
import Derived.Test.YtgfklingekiflaaActs
namespace Go.Proofs.Ytgfklingekiflaa
open Go.RowKit Go.Shelf
set_option linter.unusedSimpArgs false
set_option linter.unusedVariables false

structure Two (w0 W : World) (rb nb ub tb : Nat) (v1 v2 : Value) (l1 l2 : List G) : Prop where
  n : NetAt w0.heap.size W nb v1 l1
  u : RAt w0.heap.size W ub v2 l2
  r : W.heap[rb]? = some (.cells #[.bool false] 4 (0, 0))
  t : W.heap[tb]? = some (.cells #[.pointer (some ⟨ub, 0, none⟩)] 46 (0, 0))
  below : Below w0.heap.size w0 W
  rle : w0.heap.size ≤ rb
  tle : w0.heap.size ≤ tb
  v12 : ∀ k, v1.ownBlock = some k → v2.ownBlock ≠ some k

section
variable {w0 W W' : World} {rb nb ub tb : Nat} {v1 v2 : Value} {l1 l2 l' : List G}

theorem cells_ne {W : World} {a b : Nat} {c d : Array Value} {s t : TypeId} {f g : Nat × Nat} (h : W.heap[a]? = some (.cells c s f)) (k : W.heap[b]? = some (.cells d t g)) (hst : s ≠ t) : a ≠ b := by
  intro e; subst e
  rw [h] at k
  simp at k
  exact hst k.2.1

theorem row_ne {W : World} {base b n : Nat} {u : Value} {ys : List Value} {c : Array Value} {t : TypeId} {f : Nat × Nat} (h : W.heap[b]? = some (.cells c t f)) (ht : t ≠ 27) (hr : W.ownsRow base 27 6 u n ys) : u.ownBlock ≠ some b := by
  intro e
  rcases hr.2 with ⟨rfl, _⟩ | ⟨g, cap, cur, rfl, _, hg, _⟩
  · cases e
  · have : g = b := by simpa [Value.ownBlock] using e
    subst this
    rw [h] at hg
    simp at hg
    exact ht hg.2.1

theorem Two.step (h : Two w0 W rb nb ub tb v1 v2 l1 l2) (hb : Below W.heap.size W W') : Two w0 W' rb nb ub tb v1 v2 l1 l2 :=
  ⟨h.n.below hb, h.u.below hb, (hb.block rb (Array.getElem?_eq_some_iff.1 h.r).1).trans h.r, (hb.block tb (Array.getElem?_eq_some_iff.1 h.t).1).trans h.t, h.below.trans (hb.mono h.below.size), h.rle, h.tle, h.v12⟩

theorem Two.net (h : Two w0 W rb nb ub tb v1 v2 l1 l2) (hp : NetPost w0.heap.size W nb v1 l' W') : ∃ v1', Two w0 W' rb nb ub tb v1' v2 l' l2 ∧ Touch nb v1 W W' ∧ Fresh W v1 v1' := by
  have hb := NetPost.below h.n hp
  obtain ⟨v', g1, g2, g3⟩ := hp
  have hlt : ∀ {k : Nat} {o : Obj}, W.heap[k]? = some o → k < W.heap.size := fun h => (Array.getElem?_eq_some_iff.1 h).1
  refine ⟨v', ⟨g1, h.u.same ?_ ?_, ?_, ?_, h.below.trans hb, h.rle, h.tle, ?_⟩, g2, g3⟩
  · exact g2.block ub h.u.lt (cells_ne h.u.box h.n.box (by decide)) (row_ne h.u.box (by decide) h.n.row)
  · intro k hk
    exact g2.block k (h.u.row.lt k hk).2 (fun e => row_ne h.n.box (by decide) h.u.row (e ▸ hk)) (fun e => h.v12 k e hk)
  · exact (g2.block rb (hlt h.r) (cells_ne h.r h.n.box (by decide)) (row_ne h.r (by decide) h.n.row)).trans h.r
  · exact (g2.block tb (hlt h.t) (cells_ne h.t h.n.box (by decide)) (row_ne h.t (by decide) h.n.row)).trans h.t
  · intro k hk hk2
    rcases g3 with g3 | g3
    · exact h.v12 k (g3 ▸ hk) hk2
    · have := g3 k hk; have := (h.u.row.lt k hk2).2; omega

theorem Two.ref (h : Two w0 W rb nb ub tb v1 v2 l1 l2) (hp : RPost w0.heap.size W ub v2 l' W') : ∃ v2', Two w0 W' rb nb ub tb v1 v2' l1 l' ∧ Touch ub v2 W W' ∧ Fresh W v2 v2' := by
  have hb := RPost.below h.u hp
  obtain ⟨v', g1, g2, g3⟩ := hp
  have hlt : ∀ {k : Nat} {o : Obj}, W.heap[k]? = some o → k < W.heap.size := fun h => (Array.getElem?_eq_some_iff.1 h).1
  refine ⟨v', ⟨h.n.same ?_ ?_, g1, ?_, ?_, h.below.trans hb, h.rle, h.tle, ?_⟩, g2, g3⟩
  · exact g2.block nb h.n.lt (cells_ne h.n.box h.u.box (by decide)) (row_ne h.n.box (by decide) h.u.row)
  · intro k hk
    exact g2.block k (h.n.row.lt k hk).2 (fun e => row_ne h.u.box (by decide) h.n.row (e ▸ hk)) (fun e => h.v12 k hk e)
  · exact (g2.block rb (hlt h.r) (cells_ne h.r h.u.box (by decide)) (row_ne h.r (by decide) h.u.row)).trans h.r
  · exact (g2.block tb (hlt h.t) (cells_ne h.t h.u.box (by decide)) (row_ne h.t (by decide) h.u.row)).trans h.t
  · intro k hk hk2
    rcases g3 with g3 | g3
    · exact h.v12 k hk (g3 ▸ hk2)
    · have := g3 k hk2; have := (h.n.row.lt k hk).2; omega

theorem Two.start {w w1 : World} (hr : w1.heap[w.heap.size]? = some (.cells #[.bool false] 4 (0, 0))) (hb : Below w.heap.size w w1) :
    Two w (((w1.alloc (.cells #[.slice none 0 0] 53)).alloc (.cells #[.slice none 0 0] 48)).alloc (.cells #[.pointer (some ⟨w1.heap.size + 1, 0, none⟩)] 46)) w.heap.size w1.heap.size (w1.heap.size + 1) (w1.heap.size + 1 + 1) (.slice none 0 0) (.slice none 0 0) [] [] := by
  have hlt := (Array.getElem?_eq_some_iff.1 hr).1
  have x1 := World.alloc_heap_new w1 (.cells #[.slice none 0 0] 53)
  have x2 := World.alloc_heap_new (w1.alloc (.cells #[.slice none 0 0] 53)) (.cells #[.slice none 0 0] 48)
  have x3 := World.alloc_heap_new ((w1.alloc (.cells #[.slice none 0 0] 53)).alloc (.cells #[.slice none 0 0] 48)) (.cells #[.pointer (some ⟨w1.heap.size + 1, 0, none⟩)] 46)
  simp only [World.size_alloc] at x2 x3
  refine ⟨⟨by omega, ?_, World.ownsRow_nil _ _ _ _⟩, ⟨by omega, ?_, World.ownsRow_nil _ _ _ _⟩, ?_, x3, ?_, Nat.le_refl _, by omega, by simp [Value.ownBlock]⟩
  · rw [Below.heap_alloc _ _ _ (by simp; omega), Below.heap_alloc _ _ _ (by simp)]; exact x1
  · rw [Below.heap_alloc _ _ _ (by simp)]; exact x2
  · rw [Below.heap_alloc _ _ _ (by simp; omega), Below.heap_alloc _ _ _ (by simp; omega), Below.heap_alloc _ _ _ (by omega)]; exact hr
  · exact hb.trans ((((Below.refl _ w1).alloc (Nat.le_refl _) _).alloc (by simp) _).alloc (by simp; omega) _ |>.mono (by omega))
end

/-- What a round has besides: the call's own copy, and the two datagrams that are handed out. -/
structure Rd (w0 W : World) (rb nb ub tb : Nat) (v1 v2 : Value) (l1 l2 : List G) (ab gb hb : Nat) (x : Act8) (g h : G) : Prop where
  two : Two w0 W rb nb ub tb v1 v2 l1 l2
  a : W.heap[ab]? = some (.cells x.cells.toArray 44 (0, 0))
  g : W.heap[gb]? = some (.cells g.cells.toArray 27 (0, 0))
  h : W.heap[hb]? = some (.cells h.cells.toArray 27 (0, 0))
  gh : gb ≠ hb
  gle : w0.heap.size ≤ gb
  hle : w0.heap.size ≤ hb
  v1g : v1.ownBlock ≠ some gb
  v1h : v1.ownBlock ≠ some hb
  v2g : v2.ownBlock ≠ some gb
  v2h : v2.ownBlock ≠ some hb

section
variable {w0 W W' : World} {rb nb ub tb ab gb hb : Nat} {v1 v2 : Value} {l1 l2 l' : List G} {x : Act8} {g h g' h' : G}

theorem Rd.step (H : Rd w0 W rb nb ub tb v1 v2 l1 l2 ab gb hb x g h) (hb' : Below W.heap.size W W') : Rd w0 W' rb nb ub tb v1 v2 l1 l2 ab gb hb x g h :=
  ⟨H.two.step hb', (hb'.block ab (Array.getElem?_eq_some_iff.1 H.a).1).trans H.a, (hb'.block gb (Array.getElem?_eq_some_iff.1 H.g).1).trans H.g, (hb'.block hb (Array.getElem?_eq_some_iff.1 H.h).1).trans H.h, H.gh, H.gle, H.hle, H.v1g, H.v1h, H.v2g, H.v2h⟩

theorem Rd.net (H : Rd w0 W rb nb ub tb v1 v2 l1 l2 ab gb hb x g h) (hp : NetPost w0.heap.size W nb v1 l' W') : ∃ v1', Rd w0 W' rb nb ub tb v1' v2 l' l2 ab gb hb x g h := by
  obtain ⟨v1', h2, t, f⟩ := H.two.net hp
  have hlt : ∀ {k : Nat} {o : Obj}, W.heap[k]? = some o → k < W.heap.size := fun h => (Array.getElem?_eq_some_iff.1 h).1
  have hne : ∀ {k : Nat}, k < W.heap.size → v1.ownBlock ≠ some k → v1'.ownBlock ≠ some k := fun {k} hk hn e => by
    rcases f with f | f
    · exact hn (f ▸ e)
    · have := f k e; omega
  exact ⟨v1', h2, (t.block ab (hlt H.a) (cells_ne H.a H.two.n.box (by decide)) (row_ne H.a (by decide) H.two.n.row)).trans H.a, (t.block gb (hlt H.g) (cells_ne H.g H.two.n.box (by decide)) H.v1g).trans H.g, (t.block hb (hlt H.h) (cells_ne H.h H.two.n.box (by decide)) H.v1h).trans H.h, H.gh, H.gle, H.hle, hne (hlt H.g) H.v1g, hne (hlt H.h) H.v1h, H.v2g, H.v2h⟩

theorem Rd.ref (H : Rd w0 W rb nb ub tb v1 v2 l1 l2 ab gb hb x g h) (hp : RPost w0.heap.size W ub v2 l' W') : ∃ v2', Rd w0 W' rb nb ub tb v1 v2' l1 l' ab gb hb x g h := by
  obtain ⟨v2', h2, t, f⟩ := H.two.ref hp
  have hlt : ∀ {k : Nat} {o : Obj}, W.heap[k]? = some o → k < W.heap.size := fun h => (Array.getElem?_eq_some_iff.1 h).1
  have hne : ∀ {k : Nat}, k < W.heap.size → v2.ownBlock ≠ some k → v2'.ownBlock ≠ some k := fun {k} hk hn e => by
    rcases f with f | f
    · exact hn (f ▸ e)
    · have := f k e; omega
  exact ⟨v2', h2, (t.block ab (hlt H.a) (cells_ne H.a H.two.u.box (by decide)) (row_ne H.a (by decide) H.two.u.row)).trans H.a, (t.block gb (hlt H.g) (cells_ne H.g H.two.u.box (by decide)) H.v2g).trans H.g, (t.block hb (hlt H.h) (cells_ne H.h H.two.u.box (by decide)) H.v2h).trans H.h, H.gh, H.gle, H.hle, H.v1g, H.v1h, hne (hlt H.g) H.v2g, hne (hlt H.h) H.v2h⟩

theorem setCells_all {W : World} {b : Nat} {c : Array Value} {t : TypeId} {ys : List Value} (h : W.heap[b]? = some (.cells c t (0, 0))) (hl : ys.length = c.size) : (W.setCells b 0 ys).heap[b]? = some (.cells ys.toArray t (0, 0)) := by
  obtain ⟨cur, h1, h2⟩ := heap_setCells b ys 0 W c t (0, 0) h (by omega)
  rw [h1]
  have : cur = ys.toArray := by
    apply Array.toList_inj.1
    rw [h2]
    simp [hl]
  rw [this]

theorem Two.setCells (H : Two w0 W rb nb ub tb v1 v2 l1 l2) {b : Nat} {c : Array Value} (hb : W.heap[b]? = some (.cells c 27 (0, 0))) (hle : w0.heap.size ≤ b) (h1 : v1.ownBlock ≠ some b) (h2 : v2.ownBlock ≠ some b) (ys : List Value) : Two w0 (W.setCells b 0 ys) rb nb ub tb v1 v2 l1 l2 := by
  have hn : ∀ k, k ≠ b → (W.setCells b 0 ys).heap[k]? = W.heap[k]? := fun k hk => heap_setCells_ne _ _ _ _ _ hk
  have hg := setCells_grown b ys 0 W
  refine ⟨H.n.same (hn _ (cells_ne H.n.box hb (by decide))) (fun k hk => hn k (fun e => h1 (e ▸ hk))), H.u.same (hn _ (cells_ne H.u.box hb (by decide))) (fun k hk => hn k (fun e => h2 (e ▸ hk))),
    (hn _ (cells_ne H.r hb (by decide))).trans H.r, (hn _ (cells_ne H.t hb (by decide))).trans H.t, ?_, H.rle, H.tle, H.v12⟩
  exact H.below.grown hg H.below.size (fun k e => by cases e; exact hle)

theorem Rd.setg (H : Rd w0 W rb nb ub tb v1 v2 l1 l2 ab gb hb x g h) (g' : G) : Rd w0 (W.setCells gb 0 g'.cells) rb nb ub tb v1 v2 l1 l2 ab gb hb x g' h :=
  ⟨H.two.setCells H.g H.gle H.v1g H.v2g _, (heap_setCells_ne _ _ _ _ _ (cells_ne H.a H.g (by decide))).trans H.a, setCells_all H.g rfl, (heap_setCells_ne _ _ _ _ _ H.gh.symm).trans H.h, H.gh, H.gle, H.hle, H.v1g, H.v1h, H.v2g, H.v2h⟩

theorem Rd.seth (H : Rd w0 W rb nb ub tb v1 v2 l1 l2 ab gb hb x g h) (h' : G) : Rd w0 (W.setCells hb 0 h'.cells) rb nb ub tb v1 v2 l1 l2 ab gb hb x g h' :=
  ⟨H.two.setCells H.h H.hle H.v1h H.v2h _, (heap_setCells_ne _ _ _ _ _ (cells_ne H.a H.h (by decide))).trans H.a, (heap_setCells_ne _ _ _ _ _ H.gh).trans H.g, setCells_all H.h rfl, H.gh, H.gle, H.hle, H.v1g, H.v1h, H.v2g, H.v2h⟩

theorem Two.tcell (H : Two w0 W rb nb ub tb v1 v2 l1 l2) : W.cell? ⟨tb, 0, none⟩ = some (.pointer (some ⟨ub, 0, none⟩)) := by simp [World.cell?, H.t]
theorem Two.rcell (H : Two w0 W rb nb ub tb v1 v2 l1 l2) : W.cell? ⟨rb, 0, none⟩ = some (.bool false) := by simp [World.cell?, H.r]
theorem Two.rfree (H : Two w0 W rb nb ub tb v1 v2 l1 l2) : W.frozen? ⟨rb, 0, none⟩ = false := frozen_at H.r

theorem cells6 {W : World} {b : Nat} {t : TypeId} {y : G} (h : W.heap[b]? = some (.cells y.cells.toArray t (0, 0))) :
    W.cell? ⟨b, 0, none⟩ = some (.int .i64 y.c) ∧ W.cell? ⟨b, 1, none⟩ = some (.bool y.u) ∧ W.cell? ⟨b, 2, none⟩ = some (.int .i64 y.e) ∧ W.cell? ⟨b, 3, none⟩ = some (.int .i64 y.s) ∧ W.cell? ⟨b, 4, none⟩ = some (.int .i64 y.a) ∧ W.cell? ⟨b, 5, none⟩ = some (.string y.b) := by
  simp [World.cell?, h, G.cells]
theorem cells8 {W : World} {b : Nat} {t : TypeId} {y : Act8} (h : W.heap[b]? = some (.cells y.cells.toArray t (0, 0))) :
    W.cell? ⟨b, 0, none⟩ = some (.int .i64 y.k) ∧ W.cell? ⟨b, 1, none⟩ = some (.int .i64 y.g.c) ∧ W.cell? ⟨b, 2, none⟩ = some (.bool y.g.u) ∧ W.cell? ⟨b, 3, none⟩ = some (.int .i64 y.g.e) ∧ W.cell? ⟨b, 4, none⟩ = some (.int .i64 y.g.s) ∧ W.cell? ⟨b, 5, none⟩ = some (.int .i64 y.g.a) ∧ W.cell? ⟨b, 6, none⟩ = some (.string y.g.b) ∧ W.cell? ⟨b, 7, none⟩ = some (.int .i64 y.t) := by
  simp [World.cell?, h, G.cells, Act8.cells]
end

/-! The lists' lengths. -/
theorem putList_len (l : List G) (g : G) : (putList l g).length ≤ l.length + 1 := by unfold putList; split <;> simp
theorem pullL_len (l : List G) (i : Int) : (pullL l i).length ≤ l.length := by
  unfold pullL
  split
  · rw [List.length_eraseIdx]; split <;> omega
  · exact Nat.le_refl _
theorem copyL_len (l : List G) (c : Int) (u : Bool) (t : Int) : (copyL l c u t).length ≤ l.length + 1 := by
  unfold copyL
  cases pullG l (plOf l c u t) with
  | none => simp
  | some g => exact putList_len l g
end Go.Proofs.Ytgfklingekiflaa
