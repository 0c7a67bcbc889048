/- What the reference's Read holds; its contracts' plain parts. -/
import Derived.Test.YtianblmceohmnaaStands
import Derived.Test.YtianblmceohmnaaRefGood
import Derived.Test.YtianblmceohmnaaPAllx24
import Derived.Deep.LoopGhost
import Derived.StillTailTactics
import Derived.Deep.RegionLaw
import Derived.Deep.DeepCutAuto
import Derived.Deep.CutBlock
import Derived.Deep.CutRange
import Derived.Outline
namespace Go.Proofs.Ytianblmceohmnaa.Hand
open Go.RowKit Go.Maps Go.Proofs.Ytianblmceohmnaa.PAll Go.Proofs.YtianblmceohmnaaW.PrintWords Go.Proofs.MapF
set_option linter.unusedVariables false
set_option linter.unusedSimpArgs false
set_option maxRecDepth 100000

structure Rf (w W : World) (gv rb : Nat) (lv dv pv : Value) (L : List S43) (D : List S24) (P : List S45) : Prop where
  below : Below w.heap.size w W
  v : W.heap[gv]? = some (.cells #[lv, dv, pv] 37 (0, 0))
  r : W.heap[rb]? = some (.cells nils 37 (0, 0))
  o : W.ownsRow w.heap.size 43 4 lv L.length (L.flatMap cells43)
  d : W.ownsRow w.heap.size 24 3 dv D.length (rows24 D)
  q : W.ownsRow w.heap.size 45 2 pv P.length (P.flatMap cells45)
  vr : gv ≠ rb
  bases : w.heap.size ≤ gv ∧ w.heap.size ≤ rb
section
variable {w W W' : World} {gv rb : Nat} {lv dv pv : Value} {L : List S43} {D : List S24} {P : List S45}
theorem Rf.step (h : Rf w W gv rb lv dv pv L D P) (hb : Below W.heap.size W W') : Rf w W' gv rb lv dv pv L D P :=
  ⟨below_step h.below hb, blk_below h.v hb, blk_below h.r hb, own_move h.o (fun k hk => hb.block k (h.o.lt k hk).2), own_move h.d (fun k hk => hb.block k (h.d.lt k hk).2), own_move h.q (fun k hk => hb.block k (h.q.lt k hk).2), h.vr, h.bases⟩
theorem own_other {base : Nat} {e t : TypeId} {size m : Nat} {v : Value} {xs : List Value} (ho : W.ownsRow base e size v m xs) {row : Option Nat} (hg : W.grownBy W' row) (hc : ∀ k, row = some k → ∃ cur, W.heap[k]? = some (.cells cur t (0, 0))) (ht : t ≠ e) : W'.ownsRow base e size v m xs :=
  own_move ho (fun k hk => hg.block k (ho.lt k hk).2 (fun e' => by
    obtain ⟨cells, h1⟩ := own_typed ho k hk
    obtain ⟨cur, h2⟩ := hc k e'.symm
    rw [h1] at h2
    injection h2 with h2
    injection h2 with _ h2
    exact ht h2.symm))
theorem own_apart {base e size m : Nat} {v : Value} {xs : List Value} (ho : W.ownsRow base e size v m xs) {row : Option Nat} (hg : W.grownBy W' row) (hc : ∀ k, v.ownBlock = some k → some k ≠ row) : W'.ownsRow base e size v m xs :=
  own_move ho (fun k hk => hg.block k (ho.lt k hk).2 (hc k hk))
theorem blk_other {g : Nat} {o : Obj} (h : W.heap[g]? = some o) {row : Option Nat} {t : TypeId} (hg : W.grownBy W' row) (hc : ∀ k, row = some k → ∃ cur, W.heap[k]? = some (.cells cur t (0, 0))) (ho : ∀ cur, o ≠ .cells cur t (0, 0)) : W'.heap[g]? = some o :=
  blk_grown h hg (fun e => by
    obtain ⟨cur, h1⟩ := hc _ e.symm
    rw [h] at h1
    exact ho cur (by injection h1))
/-- A row of type t has grown; the state's own rows of that type are others. -/
theorem Rf.kept (h : Rf w W gv rb lv dv pv L D P) {row : Option Nat} {t : TypeId} (hg : W.grownBy W' row) (hw : ∀ k, row = some k → w.heap.size ≤ k) (hc : ∀ k, row = some k → ∃ cur, W.heap[k]? = some (.cells cur t (0, 0))) (ht : t ≠ 37)
    (h0 : ∀ k, lv.ownBlock = some k → some k ≠ row) (h1 : ∀ k, dv.ownBlock = some k → some k ≠ row) (h2 : ∀ k, pv.ownBlock = some k → some k ≠ row) : Rf w W' gv rb lv dv pv L D P :=
  ⟨h.below.grown hg h.below.size hw, blk_other h.v hg hc (fun _ e => ht (by cases e; rfl)), blk_other h.r hg hc (fun _ e => ht (by cases e; rfl)), own_apart h.o hg h0, own_apart h.d hg h1, own_apart h.q hg h2, h.vr, h.bases⟩
theorem typed_apart {base e t size m : Nat} {v : Value} {xs : List Value} (ho : W.ownsRow base e size v m xs) {row : Option Nat} (hc : ∀ k, row = some k → ∃ cur, W.heap[k]? = some (.cells cur t (0, 0))) (ht : t ≠ e) : ∀ k, v.ownBlock = some k → some k ≠ row := fun k hk e' => by
  obtain ⟨cells, h1⟩ := own_typed ho k hk
  obtain ⟨cur, h2⟩ := hc k e'.symm
  rw [h1] at h2
  injection h2 with h2
  injection h2 with _ h2
  exact ht h2.symm
/-- A box of entries has turned. -/
theorem Rf.box (h : Rf w W gv rb lv dv pv L D P) {g : Nat} {cs : Array Value} (hb : W.heap[g]? = some (.cells cs 31 (0, 0))) (hw : w.heap.size ≤ g) (hg : W.grownBy W' (some g)) : Rf w W' gv rb lv dv pv L D P :=
  have hc : ∀ k, some g = some k → ∃ cur, W.heap[k]? = some (.cells cur 31 (0, 0)) := fun k e => by cases e; exact ⟨_, hb⟩
  h.kept hg (fun k e => by cases e; exact hw) hc (by decide) (typed_apart h.o hc (by decide)) (typed_apart h.d hc (by decide)) (typed_apart h.q hc (by decide))

/-- The row that is being made: apart from an elder one. -/
structure Nx (w W : World) (e size : Nat) (ov nv : Value) (n : Nat) (xs : List Value) : Prop where
  row : W.ownsRow w.heap.size e size nv n xs
  ne : ∀ k, ov.ownBlock = some k → nv.ownBlock ≠ some k
theorem Nx.nil (e size : Nat) (ov : Value) : Nx w W e size ov (.slice none 0 0) 0 [] := ⟨own_nil _ _ _ _, fun k _ h => by simp [Value.ownBlock] at h⟩
theorem Nx.step {e size n : Nat} {ov nv : Value} {xs : List Value} (h : Nx w W e size ov nv n xs) (hb : Below W.heap.size W W') : Nx w W' e size ov nv n xs := ⟨own_move h.row (fun k hk => hb.block k (h.row.lt k hk).2), h.ne⟩
/-- Behind an append to that row. -/
theorem Nx.grown {e size n m : Nat} {ov nv : Value} {xs ys : List Value} {o : Obj} {g c : Nat} (h : Nx w W e size ov nv n xs) {es : Nat} {zs : List Value} {k : Nat} (ho : W.ownsRow w.heap.size e es ov k zs)
    (hown : W'.ownsRow w.heap.size e size (.slice (some ⟨g, 0, none⟩) (n + m) c) (n + m) ys) (hat : nv.ownBlock = some g ∨ g = (W.alloc o).heap.size) : Nx w W' e size ov (.slice (some ⟨g, 0, none⟩) (n + m) c) (n + m) ys :=
  ⟨hown, fun k hk e => by
    have e' : g = k := by simpa [Value.ownBlock] using e
    subst e'
    rcases hat with hat | hat
    · exact h.ne g hk hat
    · have := (ho.lt g hk).2
      simp at hat
      omega⟩
/-- The view's box takes the row. -/
theorem Rf.putL (h : Rf w W gv rb lv dv pv L D P) {nv : Value} {N : List S43} (hn : W.ownsRow w.heap.size 43 4 nv N.length (N.flatMap cells43)) : Rf w (W.setCell ⟨gv, 0, none⟩ nv) gv rb nv dv pv N D P := by
  obtain ⟨hv, hgr⟩ := put_view (u := nv) (j := 0) h.v rfl
  exact ⟨h.below.grown hgr h.below.size (fun k e => by cases e; exact h.bases.1), hv, blk_grown h.r hgr (fun e => h.vr (by injection e.symm)), own_past_view hn h.v (by decide) hgr, own_past_view h.d h.v (by decide) hgr, own_past_view h.q h.v (by decide) hgr, h.vr, h.bases⟩
theorem Rf.putD (h : Rf w W gv rb lv dv pv L D P) {nv : Value} {N : List S24} (hn : W.ownsRow w.heap.size 24 3 nv N.length (rows24 N)) : Rf w (W.setCell ⟨gv, 1, none⟩ nv) gv rb lv nv pv L N P := by
  obtain ⟨hv, hgr⟩ := put_view (u := nv) (j := 1) h.v rfl
  exact ⟨h.below.grown hgr h.below.size (fun k e => by cases e; exact h.bases.1), hv, blk_grown h.r hgr (fun e => h.vr (by injection e.symm)), own_past_view h.o h.v (by decide) hgr, own_past_view hn h.v (by decide) hgr, own_past_view h.q h.v (by decide) hgr, h.vr, h.bases⟩
theorem Rf.putP (h : Rf w W gv rb lv dv pv L D P) {nv : Value} {N : List S45} (hn : W.ownsRow w.heap.size 45 2 nv N.length (N.flatMap cells45)) : Rf w (W.setCell ⟨gv, 2, none⟩ nv) gv rb lv dv nv L D N := by
  obtain ⟨hv, hgr⟩ := put_view (u := nv) (j := 2) h.v rfl
  exact ⟨h.below.grown hgr h.below.size (fun k e => by cases e; exact h.bases.1), hv, blk_grown h.r hgr (fun e => h.vr (by injection e.symm)), own_past_view h.o h.v (by decide) hgr, own_past_view h.d h.v (by decide) hgr, own_past_view hn h.v (by decide) hgr, h.vr, h.bases⟩
end

/-- The loop over the losers: the state, the row that is made, the entry's box. -/
structure Lq (w W : World) (gv rb xb : Nat) (x : S31) (lv dv pv nv : Value) (L : List S43) (D : List S24) (P : List S45) (N : List S43) : Prop where
  s : Rf w W gv rb lv dv pv L D P
  n : Nx w W 43 4 lv nv N.length (N.flatMap cells43)
  x : W.heap[xb]? = some (.cells (vs31 x) 31 (0, 0))
  xw : w.heap.size ≤ xb
section
variable {w W W' : World} {gv rb xb : Nat} {x : S31} {lv dv pv nv : Value} {L : List S43} {D : List S24} {P : List S45} {N : List S43}
theorem Lq.step (h : Lq w W gv rb xb x lv dv pv nv L D P N) (hb : Below W.heap.size W W') : Lq w W' gv rb xb x lv dv pv nv L D P N := ⟨h.s.step hb, h.n.step hb, blk_below h.x hb, h.xw⟩
theorem Lq.drewN (h : Lq w W gv rb xb x lv dv pv nv L D P N) (n : Nat) : Lq w (W.drewN n) gv rb xb x lv dv pv nv L D P N := h.step ⟨rfl, rfl, rfl, Nat.le_refl _, fun _ _ => rfl⟩
theorem Lq.drew (h : Lq w W gv rb xb x lv dv pv nv L D P N) : Lq w W.drew gv rb xb x lv dv pv nv L D P N := h.step ⟨rfl, rfl, rfl, Nat.le_refl _, fun _ _ => rfl⟩
theorem Lq.append (h : Lq w W gv rb xb x lv dv pv nv L D P N) {o : Obj} {y : S43} {g c : Nat} (hown : W'.ownsRow w.heap.size 43 4 (.slice (some ⟨g, 0, none⟩) (N.length + 1) c) (N.length + 1) (N.flatMap cells43 ++ cells43 y))
    (hg : (W.alloc o).grownBy W' nv.ownBlock) (hat : nv.ownBlock = some g ∨ g = (W.alloc o).heap.size) : Lq w W' gv rb xb x lv dv pv (.slice (some ⟨g, 0, none⟩) (N.length + 1) c) L D P (N ++ [y]) := by
  have h0 := h.step (below_alloc (Below.refl _ _) o)
  have hw : ∀ k, nv.ownBlock = some k → w.heap.size ≤ k := fun k e => (h0.n.row.lt k e).1
  have hc : ∀ k, nv.ownBlock = some k → ∃ cur, (W.alloc o).heap[k]? = some (.cells cur 43 (0, 0)) := fun k e => own_typed h0.n.row k e
  have hs := h0.s.kept hg hw hc (by decide) (fun k hk e => h0.n.ne k hk e.symm) (typed_apart h0.s.d hc (by decide)) (typed_apart h0.s.q hc (by decide))
  refine ⟨hs, ?_, blk_other h0.x hg hc (fun _ e => by cases e), h.xw⟩
  have e1 : (N ++ [y]).length = N.length + 1 := by simp
  have e2 : (N ++ [y]).flatMap cells43 = N.flatMap cells43 ++ cells43 y := by simp
  rw [e1, e2]
  exact h.n.grown h.s.o hown hat
theorem Lq.lit (hs : Rf w W gv rb lv dv pv L D P) (hx : W.heap[xb]? = some (.cells (vs31 x) 31 (0, 0))) (hxw : w.heap.size ≤ xb) : Lq w (W.alloc (.cells #[] 43)) gv rb xb x lv dv pv (.slice (some ⟨W.heap.size, 0, none⟩) 0 0) L D P [] := by
  have hb := below_alloc (Below.refl W.heap.size W) (.cells #[] 43)
  refine ⟨hs.step hb, ⟨?_, fun k hk e => ?_⟩, blk_below hx hb, hxw⟩
  · have h2 := World.ownsRow_lit (base := w.heap.size) (e := 43) (size := 4) W #[] 0 (by have := below_size hs.below; omega) (by unfold maxLen; omega) (by simp)
    simpa using h2
  · have e' : W.heap.size = k := by simpa [Value.ownBlock] using e
    have := (hs.o.lt k hk).2
    omega
def Lcells (W : World) (gv xb : Nat) (x : S31) (ad : Addr) (n c k : Nat) (y : S43) : Prop :=
    W.cell? ⟨gv, 0, none⟩ = some (.slice (some ad) n c) ∧ W.cell? ⟨xb, 1, none⟩ = some (.int .i64 x.f1.f0) ∧ W.cell? ⟨xb, 2, none⟩ = some (.int .i64 x.f1.f1) ∧ W.cell? ⟨xb, 3, none⟩ = some (.int .i64 x.f1.f2) ∧ W.cell? ⟨xb, 4, none⟩ = some (.int .i64 x.f2) ∧
      W.cell? (ad.add (k * 4)) = some (.int .i64 y.f0.f0) ∧ W.cell? ⟨(ad.add (k * 4)).block, (ad.add (k * 4)).off + 1, none⟩ = some (.int .i64 y.f0.f1) ∧ W.cell? ⟨(ad.add (k * 4)).block, (ad.add (k * 4)).off + 2, none⟩ = some (.int .i64 y.f0.f2) ∧ W.cell? ⟨(ad.add (k * 4)).block, (ad.add (k * 4)).off + 3, none⟩ = some (.int .i64 y.f1)
theorem Lq.cells {ad : Addr} {c : Nat} {y : S43} (h : Lq w W gv rb xb x (.slice (some ad) L.length c) dv pv nv L D P N) {k : Nat} (hy : L[k]? = some y) : Lcells W gv xb x ad L.length c k y := by
  obtain ⟨_, _, hr⟩ := own_reads (d := k43) (enc := cells43) (fun w x => k43_mk w x) (fun _ => rfl) h.s.o
  have hk := (List.getElem?_eq_some_iff.1 hy).1
  obtain ⟨ad', e, a0, a1, a2, a3⟩ := at_T43 hr (k : Int) (by omega) (by omega)
  have hrd : rd_T43 L (k : Int) = y := by simp [rd_T43, List.getD, hy]
  simp only [hrd, Int.toNat_natCast] at a0 a1 a2 a3
  cases e
  obtain ⟨d0, d1, d2, d3, d4, _⟩ := box31 (x := x) rfl h.x
  exact ⟨(blk_cell h.s.v 0).trans rfl, d1, d2, d3, d4, a0, a1, a2, a3⟩
theorem Lq.s7 {ad : Addr} {c : Nat} {y : S43} (h : Lq w W gv rb xb x (.slice (some ad) L.length c) dv pv nv L D P N) {k : Nat} (hy : L[k]? = some y) :
    W.cell? ⟨gv, 0, none⟩ = some (.slice (some ad) L.length c) ∧ W.cell? ⟨xb, 1, none⟩ = some (.int .i64 x.f1.f0) ∧ W.cell? ⟨xb, 2, none⟩ = some (.int .i64 x.f1.f1) ∧ W.cell? ⟨xb, 3, none⟩ = some (.int .i64 x.f1.f2) ∧
      W.cell? (ad.add (k * 4)) = some (.int .i64 y.f0.f0) ∧ W.cell? ⟨(ad.add (k * 4)).block, (ad.add (k * 4)).off + 1, none⟩ = some (.int .i64 y.f0.f1) ∧ W.cell? ⟨(ad.add (k * 4)).block, (ad.add (k * 4)).off + 2, none⟩ = some (.int .i64 y.f0.f2) := by
  obtain ⟨a0, a1, a2, a3, a4, a5, a6, a7, a8⟩ := h.cells hy
  exact ⟨a0, a1, a2, a3, a5, a6, a7⟩
end

/-- The loop over the pages: the state, the row that is made, the entry's box. -/
structure Pq (w W : World) (gv rb xb : Nat) (x : S31) (lv dv pv nv : Value) (L : List S43) (D : List S24) (P : List S45) (N : List S45) : Prop where
  s : Rf w W gv rb lv dv pv L D P
  n : Nx w W 45 2 pv nv N.length (N.flatMap cells45)
  x : W.heap[xb]? = some (.cells (vs31 x) 31 (0, 0))
  xw : w.heap.size ≤ xb
section
variable {w W W' : World} {gv rb xb : Nat} {x : S31} {lv dv pv nv : Value} {L : List S43} {D : List S24} {P : List S45} {N : List S45}
theorem Pq.step (h : Pq w W gv rb xb x lv dv pv nv L D P N) (hb : Below W.heap.size W W') : Pq w W' gv rb xb x lv dv pv nv L D P N := ⟨h.s.step hb, h.n.step hb, blk_below h.x hb, h.xw⟩
theorem Pq.drewN (h : Pq w W gv rb xb x lv dv pv nv L D P N) (n : Nat) : Pq w (W.drewN n) gv rb xb x lv dv pv nv L D P N := h.step ⟨rfl, rfl, rfl, Nat.le_refl _, fun _ _ => rfl⟩
theorem Pq.drew (h : Pq w W gv rb xb x lv dv pv nv L D P N) : Pq w W.drew gv rb xb x lv dv pv nv L D P N := h.step ⟨rfl, rfl, rfl, Nat.le_refl _, fun _ _ => rfl⟩
theorem Pq.append (h : Pq w W gv rb xb x lv dv pv nv L D P N) {o : Obj} {y : S45} {g c : Nat} (hown : W'.ownsRow w.heap.size 45 2 (.slice (some ⟨g, 0, none⟩) (N.length + 1) c) (N.length + 1) (N.flatMap cells45 ++ cells45 y))
    (hg : (W.alloc o).grownBy W' nv.ownBlock) (hat : nv.ownBlock = some g ∨ g = (W.alloc o).heap.size) : Pq w W' gv rb xb x lv dv pv (.slice (some ⟨g, 0, none⟩) (N.length + 1) c) L D P (N ++ [y]) := by
  have h0 := h.step (below_alloc (Below.refl _ _) o)
  have hw : ∀ k, nv.ownBlock = some k → w.heap.size ≤ k := fun k e => (h0.n.row.lt k e).1
  have hc : ∀ k, nv.ownBlock = some k → ∃ cur, (W.alloc o).heap[k]? = some (.cells cur 45 (0, 0)) := fun k e => own_typed h0.n.row k e
  have hs := h0.s.kept hg hw hc (by decide) (typed_apart h0.s.o hc (by decide)) (typed_apart h0.s.d hc (by decide)) (fun k hk e => h0.n.ne k hk e.symm)
  refine ⟨hs, ?_, blk_other h0.x hg hc (fun _ e => by cases e), h.xw⟩
  have e1 : (N ++ [y]).length = N.length + 1 := by simp
  have e2 : (N ++ [y]).flatMap cells45 = N.flatMap cells45 ++ cells45 y := by simp
  rw [e1, e2]
  exact h.n.grown h.s.q hown hat
theorem Pq.lit (hs : Rf w W gv rb lv dv pv L D P) (hx : W.heap[xb]? = some (.cells (vs31 x) 31 (0, 0))) (hxw : w.heap.size ≤ xb) : Pq w (W.alloc (.cells #[] 45)) gv rb xb x lv dv pv (.slice (some ⟨W.heap.size, 0, none⟩) 0 0) L D P [] := by
  have hb := below_alloc (Below.refl W.heap.size W) (.cells #[] 45)
  refine ⟨hs.step hb, ⟨?_, fun k hk e => ?_⟩, blk_below hx hb, hxw⟩
  · have h2 := World.ownsRow_lit (base := w.heap.size) (e := 45) (size := 2) W #[] 0 (by have := below_size hs.below; omega) (by unfold maxLen; omega) (by simp)
    simpa using h2
  · have e' : W.heap.size = k := by simpa [Value.ownBlock] using e
    have := (hs.q.lt k hk).2
    omega
theorem Pq.cells {ad : Addr} {c : Nat} {y : S45} (h : Pq w W gv rb xb x lv dv (.slice (some ad) P.length c) nv L D P N) {k : Nat} (hy : P[k]? = some y) :
    W.cell? ⟨gv, 2, none⟩ = some (.slice (some ad) P.length c) ∧ W.cell? ⟨xb, 6, none⟩ = some (.int .i64 x.f4) ∧
      W.cell? (ad.add (k * 2)) = some (.int .i64 y.f0) ∧ W.cell? ⟨(ad.add (k * 2)).block, (ad.add (k * 2)).off + 1, none⟩ = some (.int .i64 y.f1) := by
  obtain ⟨_, _, hr⟩ := own_reads (d := k45) (enc := cells45) (fun w x => k45_mk w x) (fun _ => rfl) h.s.q
  have hk := (List.getElem?_eq_some_iff.1 hy).1
  obtain ⟨ad', e, a0, a1⟩ := at_T45 hr (k : Int) (by omega) (by omega)
  have hrd : rd_T45 P (k : Int) = y := by simp [rd_T45, List.getD, hy]
  simp only [hrd, Int.toNat_natCast] at a0 a1
  cases e
  obtain ⟨_, _, _, _, _, _, d6, _⟩ := box31 (x := x) rfl h.x
  exact ⟨(blk_cell h.s.v 2).trans rfl, d6, a0, a1⟩
end

theorem Rf.drew {w W : World} {gv rb : Nat} {lv dv pv : Value} {L : List S43} {D : List S24} {P : List S45} (h : Rf w W gv rb lv dv pv L D P) : Rf w W.drew gv rb lv dv pv L D P := h.step ⟨rfl, rfl, rfl, Nat.le_refl _, fun _ _ => rfl⟩
theorem Rf.drewN {w W : World} {gv rb : Nat} {lv dv pv : Value} {L : List S43} {D : List S24} {P : List S45} (h : Rf w W gv rb lv dv pv L D P) (n : Nat) : Rf w (W.drewN n) gv rb lv dv pv L D P := h.step ⟨rfl, rfl, rfl, Nat.le_refl _, fun _ _ => rfl⟩
/-- A name more is done, and the view's box takes the row. -/
theorem Rf.appD {w W W' : World} {gv rb : Nat} {lv dv pv : Value} {L : List S43} {D : List S24} {P : List S45} (h : Rf w W gv rb lv dv pv L D P) {o : Obj} {t : S24} {v' : Value} (hd : W'.ownsRow w.heap.size 24 3 v' (D.length + 1) (rows24 D ++ cells24 t)) (hg : (W.alloc o).grownBy W' dv.ownBlock) :
    W'.heap[gv]? = some (.cells #[lv, dv, pv] 37 (0, 0)) ∧ Rf w (W'.setCell ⟨gv, 1, none⟩ v') gv rb lv v' pv L (D ++ [t]) P := by
  have h0 := h.step (below_alloc (Below.refl _ _) o)
  have hd' : W'.ownsRow w.heap.size 24 3 v' (D ++ [t]).length (rows24 (D ++ [t])) := by
    rw [rows24_append, List.length_append]
    simpa [rows24] using hd
  have hc : ∀ k, dv.ownBlock = some k → ∃ cur, (W.alloc o).heap[k]? = some (.cells cur 24 (0, 0)) := fun k e => own_typed h0.d k e
  have b1 := h0.below.grown hg h0.below.size (fun k e => (h0.d.lt k e).1)
  have b2 := blk_other h0.v hg hc (fun _ e => by cases e)
  have b3 := blk_other h0.r hg hc (fun _ e => by cases e)
  have b4 := own_other h0.o hg hc (by decide)
  have b5 := own_other h0.q hg hc (by decide)
  refine ⟨b2, ?_⟩
  obtain ⟨hv, hgr⟩ := put_view (u := v') (j := 1) b2 rfl
  exact ⟨b1.grown hgr b1.size (fun k e => by cases e; exact h.bases.1), hv, blk_grown b3 hgr (fun e => h.vr (by injection e.symm)), own_past_view b4 b2 (by decide) hgr, own_past_view hd' b2 (by decide) hgr, own_past_view b5 b2 (by decide) hgr, h.vr, h.bases⟩
/-! What the two inner loops make. -/
def stepL (t : S24) (v : Int) (s : List S43 × Bool) (y : S43) : List S43 × Bool :=
  let s1 := if !s.2 && decide (Lt24 t y.f0) then (s.1 ++ [⟨t, v⟩], true) else s
  if eq24 y.f0 t then (s1.1 ++ [⟨t, v⟩], true) else (s1.1 ++ [y], s1.2)
def finL (t : S24) (v : Int) (s : List S43 × Bool) : List S43 := if !s.2 then s.1 ++ [⟨t, v⟩] else s.1
theorem stepL_done (t : S24) (v : Int) : ∀ (L A : List S43), (∀ y ∈ L, y.f0 ≠ t) → L.foldl (stepL t v) (A, true) = (A ++ L, true)
  | [], A, _ => by simp
  | y :: L, A, h => by
    have h1 : eq24 y.f0 t = false := by rw [Bool.eq_false_iff]; exact fun e => h y (by simp) ((eq24_iff _ _).1 e)
    rw [List.foldl_cons]
    have : stepL t v (A, true) y = (A ++ [y], true) := by simp [stepL, h1]
    rw [this, stepL_done t v L _ (fun z hz => h z (by simp [hz]))]
    simp
theorem foldL (t : S24) (v : Int) : ∀ (L A : List S43), RiseL L → finL t v (L.foldl (stepL t v) (A, false)) = A ++ insL t v L
  | [], A, _ => by simp [finL, insL]
  | y :: L, A, h => by
    unfold RiseL at h
    rw [List.pairwise_cons] at h
    rw [List.foldl_cons]
    unfold insL
    by_cases h1 : Lt24 t y.f0
    · have h2 : eq24 y.f0 t = false := by rw [Bool.eq_false_iff]; intro e; rw [(eq24_iff _ _).1 e] at h1; exact Lt24.irrefl _ h1
      have : stepL t v (A, false) y = (A ++ [⟨t, v⟩] ++ [y], true) := by simp [stepL, h1, h2]
      rw [this, if_pos h1, stepL_done]
      · simp [finL]
      · intro z hz e
        have := Lt24.trans _ _ _ h1 (h.1 z hz)
        rw [e] at this
        exact Lt24.irrefl _ this
    · rw [if_neg h1]
      by_cases h2 : eq24 y.f0 t = true
      · have : stepL t v (A, false) y = (A ++ [⟨t, v⟩], true) := by simp [stepL, h1, h2]
        rw [this, if_pos h2, stepL_done]
        · simp [finL]
        · intro z hz e
          have := h.1 z hz
          rw [(eq24_iff _ _).1 h2, e] at this
          exact Lt24.irrefl _ this
      · have : stepL t v (A, false) y = (A ++ [y], false) := by simp [stepL, h1, h2]
        rw [this, if_neg h2, foldL t v L _ h.2]
        simp
def stepP (p n : Int) (s : List S45 × Bool) (y : S45) : List S45 × Bool :=
  let s1 := if !s.2 && decide (p < y.f0) then (s.1 ++ [⟨p, n⟩], true) else s
  (s1.1 ++ [y], s1.2 || y.f0 == p)
def finP (p n : Int) (s : List S45 × Bool) : List S45 := if !s.2 then s.1 ++ [⟨p, n⟩] else s.1
theorem stepP_done (p n : Int) : ∀ (L A : List S45), L.foldl (stepP p n) (A, true) = (A ++ L, true)
  | [], A => by simp
  | y :: L, A => by
    rw [List.foldl_cons]
    have : stepP p n (A, true) y = (A ++ [y], true) := by simp [stepP]
    rw [this, stepP_done p n L _]
    simp
theorem foldP45 (p n : Int) : ∀ (L A : List S45), RiseP L → finP p n (L.foldl (stepP p n) (A, false)) = A ++ insP p n L
  | [], A, _ => by simp [finP, insP]
  | y :: L, A, h => by
    unfold RiseP at h
    rw [List.pairwise_cons] at h
    rw [List.foldl_cons]
    unfold insP
    by_cases h1 : p < y.f0
    · have : stepP p n (A, false) y = (A ++ [⟨p, n⟩] ++ [y], true) := by simp [stepP, h1]
      rw [this, if_pos h1, stepP_done]
      simp [finP]
    · rw [if_neg h1]
      by_cases h2 : y.f0 = p
      · have : stepP p n (A, false) y = (A ++ [y], true) := by simp [stepP, h1, h2]
        rw [this, if_pos h2, stepP_done]
        simp [finP]
      · have : stepP p n (A, false) y = (A ++ [y], false) := by simp [stepP, h1, h2]
        rw [this, if_neg h2, foldP45 p n L _ h.2]
        simp
end Go.Proofs.Ytianblmceohmnaa.Hand

namespace Go.Proofs.Ytianblmceohmnaa.Hand
open Go.RowKit Go.Maps Go.Proofs.Ytianblmceohmnaa.PAll Go.Proofs.YtianblmceohmnaaW.PrintWords Go.Proofs.YtianblmceohmnaaW.PrintLast Go.Proofs.YtianblmceohmnaaW.PrintMore Go.Proofs.MapF
set_option linter.unusedVariables false
set_option linter.unusedSimpArgs false
set_option maxRecDepth 100000

theorem less_ref (x y : S24) : seneschalref17_Less.f x.f0 x.f1 x.f2 y.f0 y.f1 y.f2 = some (decide (Lt24 x y)) := by
  unfold seneschalref17_Less.f
  split
  · split
    · refine congrArg some ?_; rw [decide_eq_decide]; unfold Lt24; omega
    · refine congrArg some ?_; rw [decide_eq_decide]; unfold Lt24; omega
  · refine congrArg some ?_; rw [decide_eq_decide]; unfold Lt24; omega
theorem rd31' {l : List S31} {i : Nat} (h : i < l.length) : rd_T31 l (i : Int) = l[i] := by simp [rd_T31, List.getD, h]
theorem wrap_succ' {i : Nat} (h : i < 1000000) : wrap64 ((i : Int) + 1) = ((i + 1 : Nat) : Int) := by unfold wrap64; omega

def refOf (l : List S31) (t : S24) : List S31 := l.filter (fun x => good x && eq24 x.f1 t)
theorem refOf_loop (l : List S31) (t : S24) (hl : l.length ≤ 1000) : ∀ (n i : Nat) (acc : List S31), i + n = l.length → acc.length ≤ i → ∀ c, n + 1 ≤ c →
    seneschalref17_Of.l0 c l acc (i : Int) t.f0 t.f1 t.f2 = some (acc ++ refOf (l.drop i) t)
  | 0, i, acc, h, ha, c, hc => by
    obtain ⟨c, rfl⟩ : ∃ c', c = c' + 1 := ⟨c - 1, by omega⟩
    rw [seneschalref17_Of.l0, if_neg (by omega), List.drop_eq_nil_of_le (by omega)]
    simp [refOf]
  | n + 1, i, acc, h, ha, c, hc => by
    obtain ⟨c, rfl⟩ : ∃ c', c = c' + 1 := ⟨c - 1, by omega⟩
    have hi : i < l.length := by omega
    rw [seneschalref17_Of.l0, if_pos (by omega), if_pos (by omega), rd31' hi, wrap_succ' (by omega)]
    have hg : seneschalref04_Good.f l[i].f0 l[i].f1.f0 l[i].f1.f1 l[i].f1.f2 l[i].f2 l[i].f3 l[i].f4 l[i].f5 l[i].f6.f0 l[i].f6.f1 l[i].f7.f0 l[i].f7.f1 l[i].f8 = some (good l[i]) := rfl
    rw [hg, List.drop_eq_getElem_cons hi]
    unfold refOf
    rw [List.filter_cons]
    simp only [Option.bind_some]
    cases hgd : good l[i] with
    | false =>
      rw [if_neg (by simp)]
      simp only [Bool.false_and, Bool.false_eq_true, if_false]
      exact refOf_loop l t hl n (i + 1) acc (by omega) (by omega) c (by omega)
    | true =>
      rw [if_pos rfl]
      by_cases he : eq24 l[i].f1 t = true
      · rw [if_pos (show (l[i].f1.f0 == t.f0 && (l[i].f1.f1 == t.f1 && l[i].f1.f2 == t.f2)) = true from he), if_pos (by omega), he]
        simp only [Bool.and_self, if_true]
        have := refOf_loop l t hl n (i + 1) (acc ++ [l[i]]) (by omega) (by simp; omega) c (by omega)
        rw [show acc ++ l[i] :: (l.drop (i + 1)).filter (fun x => good x && eq24 x.f1 t) = (acc ++ [l[i]]) ++ refOf (l.drop (i + 1)) t by simp [refOf]]
        exact this
      · rw [if_neg (show ¬ (l[i].f1.f0 == t.f0 && (l[i].f1.f1 == t.f1 && l[i].f1.f2 == t.f2)) = true from he)]
        have he' : eq24 l[i].f1 t = false := by simpa using he
        rw [he']
        simp only [Bool.and_false, Bool.false_eq_true, if_false]
        exact refOf_loop l t hl n (i + 1) acc (by omega) (by omega) c (by omega)
theorem refOf_any (l : List S31) (t : S24) (hl : l.length ≤ 1000) (c : Nat) (hc : l.length + 1 ≤ c) : seneschalref17_Of.f c l t.f0 t.f1 t.f2 = some (refOf l t) := by
  unfold seneschalref17_Of.f
  have := refOf_loop l t hl l.length 0 [] (by omega) (by simp) c hc
  simpa using this
theorem good_kind {x : S31} (h : good x = true) : x.f0 = 1 ∨ x.f0 = 2 ∨ x.f0 = 3 ∨ x.f0 = 4 := by
  rw [good_own] at h
  have hk : kindB x (chB x) = true := by
    rw [Bool.and_eq_true] at h
    exact h.2
  unfold kindB at hk
  split at hk
  · omega
  · split at hk
    · omega
    · rw [Bool.and_eq_true, Bool.or_eq_true] at hk
      have := hk.1
      simp at this
      omega
theorem good_late {x : S31} (h : good x = true) : decide (x.f0 > 2) = isEnd x := by
  unfold isEnd
  rcases good_kind h with e | e | e | e <;> rw [e] <;> rfl
theorem ended_loop (l : List S31) (hg : ∀ x ∈ l, good x = true) (hl : l.length ≤ 1000) : ∀ (n i : Nat), i + n = l.length → ∀ c, n + 1 ≤ c → seneschalref17_ended.l0 c l (i : Int) = some ((l.drop i).any isEnd)
  | 0, i, h, c, hc => by
    obtain ⟨c, rfl⟩ : ∃ c', c = c' + 1 := ⟨c - 1, by omega⟩
    rw [seneschalref17_ended.l0, if_neg (by omega), List.drop_eq_nil_of_le (by omega)]
    rfl
  | n + 1, i, h, c, hc => by
    obtain ⟨c, rfl⟩ : ∃ c', c = c' + 1 := ⟨c - 1, by omega⟩
    have hi : i < l.length := by omega
    rw [seneschalref17_ended.l0, if_pos (by omega), if_pos (by omega), rd31' hi, wrap_succ' (by omega), List.drop_eq_getElem_cons hi, List.any_cons]
    have hk := good_late (hg _ (List.getElem_mem hi))
    split
    · rename_i h2
      rw [decide_eq_true h2] at hk
      rw [← hk]
      rfl
    · rename_i h2
      rw [decide_eq_false h2] at hk
      rw [← hk, Bool.false_or]
      exact ended_loop l hg hl n (i + 1) (by omega) c (by omega)
theorem ended_any (l : List S31) (t : S24) (hl : l.length ≤ 1000) (c : Nat) (hc : l.length + 1 ≤ c) : seneschalref17_ended.f c l t.f0 t.f1 t.f2 = some (atEnd l t) := by
  unfold seneschalref17_ended.f
  rw [refOf_any l t hl c hc]
  simp only [Option.bind_some]
  have hlen : (refOf l t).length ≤ l.length := List.length_filter_le _ _
  have h := ended_loop (refOf l t) (fun x hx => by unfold refOf at hx; rw [List.mem_filter, Bool.and_eq_true] at hx; exact hx.2.1) (by omega) (refOf l t).length 0 (by omega) c (by omega)
  have h' : seneschalref17_ended.l0 c (refOf l t) 0 = some ((refOf l t).any isEnd) := by simpa using h
  rw [h']
  refine congrArg some ?_
  unfold refOf atEnd
  rw [List.any_filter]
  congr 1
  funext x
  cases good x <;> cases isEnd x <;> cases eq24 x.f1 t <;> rfl
theorem refEnded_calls (A0 : Option Addr) (c0 : Nat) (l0 : List S31) (t : S24) (w : World) (hr0 : Kd.C k31 w A0 l0.length l0) (hc0 : l0.length ≤ c0) (hl : l0.length ≤ 1000) :
    Calls Try.prog 30 #[.slice A0 l0.length c0, .agg #[.int .i64 t.f0, .int .i64 t.f1, .int .i64 t.f2]] w fun e w' => e = .returned (.bool (atEnd l0 t)) ∧ Below w.heap.size w w' :=
  seneschalref17_ended.calls _ A0 c0 l0 t.f0 t.f1 t.f2 _ w hr0 hc0 (ended_any l0 t hl (l0.length + 1) (Nat.le_refl _))
theorem refLess_calls (x y : S24) {b : Bool} (hb : decide (Lt24 x y) = b) (w : World) : Calls Try.prog 31 #[.agg #[.int .i64 x.f0, .int .i64 x.f1, .int .i64 x.f2], .agg #[.int .i64 y.f0, .int .i64 y.f1, .int .i64 y.f2]] w fun e w' => e = .returned (.bool b) ∧ Below w.heap.size w w' :=
  seneschalref17_Less.calls _ _ _ _ _ _ _ w (by rw [less_ref, hb])

set_option maxHeartbeats 8000000 in
theorem refRead_none (A0 : Option Addr) (c0 : Nat) (l0 : List S31) (a1 : Int) (w : World) (hf : isFirst a1 = false) :
    Calls Try.prog 14 #[.slice A0 l0.length c0, .int .i64 a1] w fun e w' => e = .returned (.agg #[.slice none 0 0, .slice none 0 0, .slice none 0 0]) ∧ Below w.heap.size w w' := by
  have hu37 := Try.underlying37
  have key : ∀ (b1 b2 : Bool), decide (a1 < 1) = b1 → (b1 = false → decide (1099511627776 < a1) = true) → Calls Try.prog 14 #[.slice A0 l0.length c0, .int .i64 a1] w fun e w' => e = .returned (.agg #[.slice none 0 0, .slice none 0 0, .slice none 0 0]) ∧ Below w.heap.size w w' := by
    intro b1 b2 h1 h2
    cases b1 with
    | true =>
      clear h2
      go_enter Try.func14, Try.ntmps14
      go_wp2_with (first
        | ((with_reducible refine gate_dst (N := 4) rfl ?_); refine box_event ?hg (N := 4) ?hd (cs := nils) (t := 37) ?hr ?_; (case hd => rfl); (case hg => rfl); (case hr => first | (go_simp; done) | (go_simp; rfl)); intro rb hg w1 hbox hb; have HB1 := Aside0.mk hb; have HRB := Aside0.mk (Nat.le_of_eq hg.symm); have RX := Aside0.mk hbox; clear hb hg hbox)
        | ((with_reducible refine gate_dst (N := 5) rfl ?_); refine box_event ?hg (N := 5) ?hd (cs := nils) (t := 37) ?hr ?_; (case hd => rfl); (case hg => rfl); (case hr => first | (go_simp; done) | (go_simp; rfl)); intro gv hg w2 hbox hb; have HB2 := Aside0.mk (below_step HB1.out hb); have HGV := Aside0.mk (show w.heap.size ≤ gv ∧ rb < gv by rw [hg]; exact ⟨below_size HB1.out, blk_lt RX.out⟩); have RX2 := Aside0.mk (blk_below RX.out hb); clear hb hg RX HB1)
        | (have hbox' := hbox; refine store_box rfl rfl rfl rfl (seg := nils) rfl hbox' rfl size37 (oneS _ _ _ ⟨_, _, _, rfl⟩ ⟨_, _, _, rfl⟩ ⟨_, _, _, rfl⟩) ?_; intro w3 hbox3 hgr hsz hbel; have HB3 := Aside0.mk (HB2.out.trans (hbel _ HGV.out.1)); have RX3 := Aside0.mk (blk_grown RX2.out hgr (fun e => Nat.ne_of_lt HGV.out.2 (by injection e))); have h0 : w3.cell? ⟨gv, 0, none⟩ = some (.slice none 0 0) := (blk_cell hbox3 0).trans rfl; have h1 : w3.cell? ⟨gv, 1, none⟩ = some (.slice none 0 0) := (blk_cell hbox3 1).trans rfl; have h2 : w3.cell? ⟨gv, 2, none⟩ = some (.slice none 0 0) := (blk_cell hbox3 2).trans rfl; clear hbox' hbox hbox3 hgr hsz hbel HB2 RX2)
        | (have RX4 := RX3.out; refine store_box rfl rfl rfl rfl (seg := nils) rfl RX4 rfl size37 (oneS _ _ _ ⟨_, _, _, rfl⟩ ⟨_, _, _, rfl⟩ ⟨_, _, _, rfl⟩) ?_; intro w4 hbox4 hgr hsz hbel; have HB4 := Aside0.mk (HB3.out.trans (hbel _ HRB.out)); have RX5 := Aside0.mk hbox4; clear RX4 RX3 hbox4 hgr hsz hbel HB3 h0 h1 h2))
      all_goals exact bodyPost_ret (v := .agg nils) (results_c rfl _ _ rb 37 nils (0, 0) _ rfl RX5.out hu37 rfl size37) rfl ⟨rfl, HB4.out⟩
    | false =>
      have h3 := h2 rfl
      clear h2
      go_enter Try.func14, Try.ntmps14
      go_wp2_with (first
        | ((with_reducible refine gate_dst (N := 4) rfl ?_); refine box_event ?hg (N := 4) ?hd (cs := nils) (t := 37) ?hr ?_; (case hd => rfl); (case hg => rfl); (case hr => first | (go_simp; done) | (go_simp; rfl)); intro rb hg w1 hbox hb; have HB1 := Aside0.mk hb; have HRB := Aside0.mk (Nat.le_of_eq hg.symm); have RX := Aside0.mk hbox; clear hb hg hbox)
        | ((with_reducible refine gate_dst (N := 5) rfl ?_); refine box_event ?hg (N := 5) ?hd (cs := nils) (t := 37) ?hr ?_; (case hd => rfl); (case hg => rfl); (case hr => first | (go_simp; done) | (go_simp; rfl)); intro gv hg w2 hbox hb; have HB2 := Aside0.mk (below_step HB1.out hb); have HGV := Aside0.mk (show w.heap.size ≤ gv ∧ rb < gv by rw [hg]; exact ⟨below_size HB1.out, blk_lt RX.out⟩); have RX2 := Aside0.mk (blk_below RX.out hb); clear hb hg RX HB1)
        | (have hbox' := hbox; refine store_box rfl rfl rfl rfl (seg := nils) rfl hbox' rfl size37 (oneS _ _ _ ⟨_, _, _, rfl⟩ ⟨_, _, _, rfl⟩ ⟨_, _, _, rfl⟩) ?_; intro w3 hbox3 hgr hsz hbel; have HB3 := Aside0.mk (HB2.out.trans (hbel _ HGV.out.1)); have RX3 := Aside0.mk (blk_grown RX2.out hgr (fun e => Nat.ne_of_lt HGV.out.2 (by injection e))); have h0 : w3.cell? ⟨gv, 0, none⟩ = some (.slice none 0 0) := (blk_cell hbox3 0).trans rfl; have h1' : w3.cell? ⟨gv, 1, none⟩ = some (.slice none 0 0) := (blk_cell hbox3 1).trans rfl; have h2 : w3.cell? ⟨gv, 2, none⟩ = some (.slice none 0 0) := (blk_cell hbox3 2).trans rfl; clear hbox' hbox hbox3 hgr hsz hbel HB2 RX2)
        | (have RX4 := RX3.out; refine store_box rfl rfl rfl rfl (seg := nils) rfl RX4 rfl size37 (oneS _ _ _ ⟨_, _, _, rfl⟩ ⟨_, _, _, rfl⟩ ⟨_, _, _, rfl⟩) ?_; intro w4 hbox4 hgr hsz hbel; have HB4 := Aside0.mk (HB3.out.trans (hbel _ HRB.out)); have RX5 := Aside0.mk hbox4; clear RX4 RX3 hbox4 hgr hsz hbel HB3 h0 h1' h2))
      all_goals exact bodyPost_ret (v := .agg nils) (results_c rfl _ _ rb 37 nils (0, 0) _ rfl RX5.out hu37 rfl size37) rfl ⟨rfl, HB4.out⟩
  refine key _ true rfl fun h => ?_
  unfold isFirst at hf
  simp at hf h ⊢
  exact hf h
end Go.Proofs.Ytianblmceohmnaa.Hand
