/- The walks of mist.Eldest, Pick and Copy. -/
import Derived.Deep.RegionLaw
import Derived.Test.YtgfklingekiflaaPull
namespace Go.Proofs.Ytgfklingekiflaa
open Go.RowKit Go.Shelf
set_option linter.unusedSimpArgs false

theorem pull_any (base b : Nat) (v : Value) (l : List G) (i : Int) (w : World) (hN : NetAt base w b v l) :
    Calls Try.prog 23 #[.pointer (some ⟨b, 0, none⟩), .int .i64 i] w (PullPost base w b v l i) := by
  rcases Int.lt_or_le i 0 with h | h
  · exact pull_none base b v l i w hN (.inl h)
  · rcases Int.lt_or_le i l.length with h1 | h1
    · obtain ⟨k, rfl⟩ := Int.eq_ofNat_of_zero_le h
      exact pull_some base b v l k l[k] w hN (by simp)
    · exact pull_none base b v l i w hN (.inr h1)

/-- Two steps, one behind the other. -/
theorem NetPost.after {base : Nat} {w w1 w2 : World} {b : Nat} {v : Value} {l : List G} (h : Below w.heap.size w w1) (hp : NetPost base w1 b v l w2) : NetPost base w b v l w2 := by
  obtain ⟨v', h1, h2, h3⟩ := hp
  refine ⟨v', h1, touch_trans (Touch.of_below h) ⟨h2.os, h2.tape, h2.output, h2.size, h2.block⟩, ?_⟩
  rcases h3 with h3 | h3
  · exact .inl h3
  · exact .inr fun k hk => Nat.le_trans h.size (h3 k hk)

/-- A block that is made ahead of it, and written behind it. -/
theorem NetPost.box {base : Nat} {w w2 : World} {b : Nat} {v : Value} {l l0 : List G} {o : Obj} (hN : NetAt base w b v l0) (hp : NetPost base (w.alloc o) b v l w2) (cs : List Value) : NetPost base w b v l (w2.setCells w.heap.size 0 cs) := by
  obtain ⟨v', h1, h2, h3⟩ := hp
  have hB : Below w.heap.size w (w.alloc o) := (Below.refl _ _).alloc (Nat.le_refl _) _
  have hbl := hN.lt
  have hv' : ∀ k, v'.ownBlock = some k → k ≠ w.heap.size := fun k hk => by
    rcases h3 with h3 | h3
    · rw [h3] at hk; have := (hN.row.lt k hk).2; omega
    · have := h3 k hk; simp at this; omega
  have hg := setCells_grown w.heap.size cs 0 w2
  refine ⟨v', ⟨h1.le, ?_, ?_⟩, ⟨?_, ?_, ?_, ?_, ?_⟩, ?_⟩
  · rw [heap_setCells_ne _ _ _ _ _ (by omega)]; exact h1.box
  · exact ownsRow_same h1.row fun k hk => heap_setCells_ne _ _ _ _ _ (hv' k hk)
  · exact hg.os.trans (h2.os.trans hB.os)
  · exact hg.tape.trans (h2.tape.trans hB.tape)
  · exact hg.output.trans (h2.output.trans hB.output)
  · exact Nat.le_trans hB.size (Nat.le_trans h2.size hg.size)
  · intro k hk h4 h5
    rw [heap_setCells_ne _ _ _ _ _ (by omega), h2.block k (by simp; omega) h4 h5, hB.block k hk]
  · rcases h3 with h3 | h3
    · exact .inl h3
    · exact .inr fun k hk => Nat.le_trans hB.size (h3 k hk)

theorem NetPost.there {base : Nat} {w w2 : World} {b : Nat} {v : Value} {l l0 : List G} {o : Obj} (hN : NetAt base w b v l0) (hp : NetPost base (w.alloc o) b v l w2) : w2.heap[w.heap.size]? = some o ∧ w.heap.size < w2.heap.size := by
  obtain ⟨v', h1, h2, h3⟩ := hp
  have hbl := hN.lt
  refine ⟨(h2.block w.heap.size (by simp) (by omega) ?_).trans (World.alloc_heap_new w o), by have := h2.size; simp at this; omega⟩
  intro h
  have := (hN.row.lt _ h).2
  omega

theorem pullpost_ret {base : Nat} {w : World} {b : Nat} {v : Value} {l : List G} {i : Int} {e : Ending} {w' : World} (h : PullPost base w b v l i e w') :
    ∃ x : G, ∃ y : Bool, x = (pullG l i).getD G.zero ∧ y = (pullG l i).isSome ∧ e = .returned (.tuple #[.agg #[.int .i64 x.c, .bool x.u, .int .i64 x.e, .int .i64 x.s, .int .i64 x.a, .string x.b], .bool y]) ∧ NetPost base w b v (pullL l i) w' :=
  ⟨_, _, rfl, rfl, h.1, h.2⟩

set_option maxHeartbeats 1000000 in
set_option maxRecDepth 100000 in
theorem eldest_any (base b : Nat) (v : Value) (l : List G) (w : World) (hN : NetAt base w b v l) :
    Calls Try.prog 10 #[.pointer (some ⟨b, 0, none⟩)] w (PullPost base w b v l 0) := by
  have hp : ∀ o, Calls Try.prog 23 #[.pointer (some ⟨b, 0, none⟩), .int .i64 0] (w.alloc o) _ := fun o => pull_any base b v l 0 (w.alloc o) (hN.same (Below.heap_alloc w o b hN.lt) (fun k hk => Below.heap_alloc w o k (hN.row.lt k hk).2))
  have HN := Lib.hid hN
  clear hN
  go_enter Try.func10, Try.ntmps10
  go_wp2_with fail
  refine (hp _).mono ?_
  intro e w2 hpost
  obtain ⟨x, y, hx, hy, rfl, hp2⟩ := pullpost_ret hpost
  clear hpost
  obtain ⟨d4, hl⟩ := hp2.there HN.out
  have e0 := cell_of_row w2 _ 0 _ _ _ d4
  have e1 := cell_of_row w2 _ 1 _ _ _ d4
  have e2 := cell_of_row w2 _ 2 _ _ _ d4
  have e3 := cell_of_row w2 _ 3 _ _ _ d4
  have e4 := cell_of_row w2 _ 4 _ _ _ d4
  have e5 := cell_of_row w2 _ 5 _ _ _ d4
  have f0 : ∀ o, w2.frozen? ⟨w.heap.size, o, none⟩ = false := fun o => frozen_at d4
  have HP := Lib.hid hp2
  have HX := Lib.hid hx
  have HY := Lib.hid hy
  clear d4 hp2 hp hx hy
  go_wp2
  refine bodyPost_ret (v := .tuple #[x.agg, .bool y]) (by simp [results, Try.results10, go_sem, G.agg, e0, e1, e2, e3, e4, e5]) rfl ⟨by rw [HX.out, HY.out], ?_⟩
  exact HP.out.box HN.out x.cells

def PickPost (base : Nat) (w : World) (b : Nat) (v : Value) (l : List G) (c : Int) (u : Bool) (t : Int) (e : Ending) (w' : World) : Prop := PullPost base w b v l (plOf l c u t) e w'

set_option maxHeartbeats 1000000 in
set_option maxRecDepth 100000 in
theorem pick_any (base b : Nat) (v : Value) (l : List G) (c : Int) (u : Bool) (t : Int) (w : World) (ht0 : -9223372036854775808 ≤ t) (ht1 : t ≤ 9223372036854775807) (hN : NetAt base w b v l) (hl : l.length ≤ 1000000) :
    Calls Try.prog 11 #[.pointer (some ⟨b, 0, none⟩), .int .i64 c, .bool u, .int .i64 t] w (PickPost base w b v l c u t) := by
  have hp0 : ∀ o, Calls Try.prog 24 #[.pointer (some ⟨b, 0, none⟩), .int .i64 c, .bool u, .int .i64 t] (w.alloc o) _ := fun o => place_any base b v l c u t (w.alloc o) ht0 ht1 (hN.same (Below.heap_alloc w o b hN.lt) (fun k hk => Below.heap_alloc w o k (hN.row.lt k hk).2)) hl
  have hp : ∀ o W, Below (w.alloc o).heap.size (w.alloc o) W → Calls Try.prog 23 #[.pointer (some ⟨b, 0, none⟩), .int .i64 (plOf l c u t)] W _ := fun o W hW => pull_any base b v l (plOf l c u t) W
    (hN.same ((hW.block b (by have := hN.lt; simp; omega)).trans (Below.heap_alloc w o b hN.lt)) (fun k hk => (hW.block k (by have := (hN.row.lt k hk).2; simp; omega)).trans (Below.heap_alloc w o k (hN.row.lt k hk).2)))
  have HN := Lib.hid hN
  unfold PickPost
  clear hN hl
  generalize plOf l c u t = i at *
  go_enter Try.func11, Try.ntmps11
  go_wp2_with fail
  refine (hp0 _).mono ?_
  rintro e w1 ⟨rfl, hb1⟩
  go_wp2_with fail
  refine (hp _ _ hb1).mono ?_
  intro e w2 hpost
  obtain ⟨x, y, hx, hy, rfl, hp2⟩ := pullpost_ret hpost
  clear hpost
  replace hp2 := hp2.after hb1
  obtain ⟨d4, hl⟩ := hp2.there HN.out
  have e0 := cell_of_row w2 _ 0 _ _ _ d4
  have e1 := cell_of_row w2 _ 1 _ _ _ d4
  have e2 := cell_of_row w2 _ 2 _ _ _ d4
  have e3 := cell_of_row w2 _ 3 _ _ _ d4
  have e4 := cell_of_row w2 _ 4 _ _ _ d4
  have e5 := cell_of_row w2 _ 5 _ _ _ d4
  have f0 : ∀ o, w2.frozen? ⟨w.heap.size, o, none⟩ = false := fun o => frozen_at d4
  have HP := Lib.hid hp2
  have HX := Lib.hid hx
  have HY := Lib.hid hy
  clear d4 hp2 hp hx hy hp0
  go_wp2
  refine bodyPost_ret (v := .tuple #[x.agg, .bool y]) (by simp [results, Try.results11, go_sem, G.agg, e0, e1, e2, e3, e4, e5]) rfl ⟨by rw [HX.out, HY.out], ?_⟩
  exact HP.out.box HN.out x.cells

/-- Copy: which code Put gives. -/
def copyB (l : List G) (c : Int) (u : Bool) (t : Int) : Bool := match pullG l (plOf l c u t) with | some g => putCode l g == 0 | none => false
def copyL (l : List G) (c : Int) (u : Bool) (t : Int) : List G := match pullG l (plOf l c u t) with | some g => putList l g | none => l

theorem nth_lt {xs : List Nat} {t : Int} (h : 0 ≤ nth xs t) : ∃ k : Nat, nth xs t = (k : Int) ∧ k ∈ xs := by
  unfold nth at h ⊢
  split at h
  · split at h
    · rename_i h1 _ x h2
      rw [if_pos h1]
      exact ⟨x, by simp [h2], List.mem_of_getElem? h2⟩
    · omega
  · omega

theorem plOf_lt {l : List G} {c : Int} {u : Bool} {t : Int} (h : 0 ≤ plOf l c u t) : ∃ k : Nat, plOf l c u t = (k : Int) ∧ ∃ x, l[k]? = some x ∧ isWay c u x = true := by
  obtain ⟨k, h1, h2⟩ := nth_lt h
  refine ⟨k, h1, ?_⟩
  have := (List.mem_filter.1 h2).2
  unfold hit at this
  cases hk : l[k]? with
  | none => rw [hk] at this; cases this
  | some x => rw [hk] at this; exact ⟨x, rfl, this⟩

def CopyPost (base : Nat) (w : World) (b : Nat) (v : Value) (l : List G) (c : Int) (u : Bool) (t : Int) (e : Ending) (w' : World) : Prop :=
  e = .returned (.bool (copyB l c u t)) ∧ NetPost base w b v (copyL l c u t) w'

set_option maxHeartbeats 1000000 in
set_option maxRecDepth 100000 in
theorem copy_any (base b : Nat) (v : Value) (l : List G) (c : Int) (u : Bool) (t : Int) (w : World) (ht0 : -9223372036854775808 ≤ t) (ht1 : t ≤ 9223372036854775807) (hN : NetAt base w b v l) (hl : l.length ≤ 1000000) :
    Calls Try.prog 15 #[.pointer (some ⟨b, 0, none⟩), .int .i64 c, .bool u, .int .i64 t] w (CopyPost base w b v l c u t) := by
  have hp0 := place_any base b v l c u t w ht0 ht1 hN hl
  have HN := Lib.hid hN
  rcases Int.lt_or_le (plOf l c u t) 0 with hneg | hpos
  · have h1 : Hid (copyB l c u t = false) := by show _ = _; simp [copyB, pullG, show ¬ 0 ≤ plOf l c u t by omega]
    have h2 : Hid (copyL l c u t = l) := by show _ = _; simp [copyL, pullG, show ¬ 0 ≤ plOf l c u t by omega]
    generalize plOf l c u t = i at *
    clear hN
    have hni : decide (0 ≤ i) = false := by simpa using hneg
    go_enter Try.func15, Try.ntmps15
    go_wp2_with fail
    refine hp0.mono ?_
    rintro e w1 ⟨rfl, hb1⟩
    go_wp2_with fail
    go_ret
    refine ⟨congrArg (fun z => Ending.returned (Value.bool z)) h1.out.symm, ?_⟩
    rw [h2.out]
    exact NetPost.of_below HN.out hb1
  · obtain ⟨k, hk, x, hx, hw⟩ := plOf_lt hpos
    have h1 : Hid (copyB l c u t = (putCode l x == 0)) := by show _ = _; simp [copyB, pullG, hk, hx]
    have h2 : Hid (copyL l c u t = putList l x) := by show _ = _; simp [copyL, pullG, hk, hx]
    have hlt : k < l.length := (List.getElem?_eq_some_iff.1 hx).1
    obtain ⟨A, cap, rfl, hA, hcap, hmax⟩ := row_shape hN.row
    obtain ⟨g, rfl⟩ := hA (by omega)
    unfold maxLen at hmax
    have hput : ∀ W, Below w.heap.size w W → Calls Try.prog 9 _ W _ := fun W hW => put_any base b _ l x W (hN.same (hW.block b hN.lt) (fun k hk => hW.block k (hN.row.lt k hk).2)) hl
    have hcs : ∀ W, Below w.heap.size w W → NetAt base W b _ l := fun W hW => hN.same (hW.block b hN.lt) (fun k hk => hW.block k (hN.row.lt k hk).2)
    rw [hk] at hp0
    have Hx := Lib.hid hx
    clear hN hx hk
    go_enter Try.func15, Try.ntmps15
    go_wp2_with fail
    refine hp0.mono ?_
    rintro e w1 ⟨rfl, hb1⟩
    have hN1 := hcs w1 hb1
    have hcell := hN1.cell
    obtain ⟨c0, c1, c2, c3, c4, c5⟩ := row_cells hN1.row Hx.out
    have HN1 := Lib.hid hN1
    clear hN1 hcs
    go_wp2_with fail
    refine (hput w1 hb1).mono ?_
    rintro e w2 ⟨rfl, hnp⟩
    have HNP := Lib.hid hnp
    clear hnp hput
    go_wp2
    go_ret
    refine ⟨congrArg (fun z => Ending.returned (Value.bool z)) (by rw [h1.out]), ?_⟩
    rw [h2.out]
    exact HNP.out.after hb1
end Go.Proofs.Ytgfklingekiflaa
