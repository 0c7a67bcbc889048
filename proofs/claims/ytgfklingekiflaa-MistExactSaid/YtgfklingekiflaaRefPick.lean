/- The walks of the reference's net: Pick, Copy, Eldest, Clear. -/
import Derived.Test.YtgfklingekiflaaRef
import Derived.Test.YtgfklingekiflaaClear
namespace Go.Proofs.Ytgfklingekiflaa
open Go.RowKit Go.Shelf
set_option linter.unusedSimpArgs false
set_option linter.unusedVariables false

def RPullPost (base : Nat) (w : World) (b : Nat) (v : Value) (l : List G) (i : Int) (e : Ending) (w' : World) : Prop :=
  ∃ x : G, ∃ y : Bool, x = (pullG l i).getD G.zero ∧ y = (pullG l i).isSome ∧ e = .returned (.tuple #[.agg #[.int .i64 x.c, .bool x.u, .int .i64 x.e, .int .i64 x.s, .int .i64 x.a, .string x.b], .bool y]) ∧ RPost base w b v (pullL l i) w'

theorem RPost.below {base : Nat} {w w' : World} {b : Nat} {v : Value} {l0 l : List G} (hN : RAt base w b v l0) (hp : RPost base w b v l w') : Below base w w' := by
  obtain ⟨v', h1, h2, h3⟩ := hp
  refine ⟨h2.os, h2.tape, h2.output, h2.size, fun k hk => h2.block k ?_ ?_ ?_⟩
  · have := hN.lt; have := hN.le; omega
  · have := hN.le; omega
  · intro h
    have := (hN.row.lt k h).1
    omega

/-- What a call did to the net, seen from an earlier world. -/
theorem RPost.after {base : Nat} {w w1 w2 : World} {b : Nat} {v : Value} {l : List G} (hb : Below w.heap.size w w1) (hp : RPost base w1 b v l w2) : RPost base w b v l w2 := by
  obtain ⟨v', h1, h2, h3⟩ := hp
  refine ⟨v', h1, ⟨h2.os.trans hb.os, h2.tape.trans hb.tape, h2.output.trans hb.output, Nat.le_trans hb.size h2.size, fun k hk a b => (h2.block k (Nat.lt_of_lt_of_le hk hb.size) a b).trans (hb.block k hk)⟩, ?_⟩
  rcases h3 with h3 | h3
  · exact .inl h3
  · exact .inr fun k hk => Nat.le_trans hb.size (h3 k hk)

/-- A block made before the call is there behind it. -/
theorem RPost.keep {base : Nat} {w w1 w2 : World} {b : Nat} {v : Value} {l l0 : List G} {k : Nat} (hN : RAt base w b v l0) (hp : RPost base w1 b v l w2) (hk : w.heap.size ≤ k) (hk1 : k < w1.heap.size) : w2.heap[k]? = w1.heap[k]? := by
  obtain ⟨v', h1, h2, h3⟩ := hp
  have := hN.lt
  exact h2.block k hk1 (by omega) (fun e => by have := (hN.row.lt k e).2; omega)

/-- .. and what is written later into such a block touches nothing. -/
theorem RPost.boxes {base : Nat} {w w1 w2 w3 : World} {b : Nat} {v : Value} {l l0 : List G} (hN : RAt base w b v l0) (hb : Below w.heap.size w w1) (hp : RPost base w1 b v l w2) (ho : w3.os = w2.os) (ht : w3.tape = w2.tape) (hu : w3.output = w2.output) (hs : w2.heap.size ≤ w3.heap.size)
    (hk : ∀ k, k < w2.heap.size → (k < w.heap.size ∨ w1.heap.size ≤ k) → w3.heap[k]? = w2.heap[k]?) : RPost base w b v l w3 := by
  have hlt := hN.lt
  obtain ⟨v', h1, h2, h3⟩ := hp
  have hown : ∀ k, v'.ownBlock = some k → k < w.heap.size ∨ w1.heap.size ≤ k := fun k e => by
    rcases h3 with h3 | h3
    · rw [h3] at e; exact .inl (hN.row.lt k e).2
    · exact .inr (h3 k e)
  refine ⟨v', h1.same (hk b h1.lt (.inl hlt)) (fun k e => hk k (h1.row.lt k e).2 (hown k e)), ⟨ho.trans (h2.os.trans hb.os), ht.trans (h2.tape.trans hb.tape), hu.trans (h2.output.trans hb.output), Nat.le_trans hb.size (Nat.le_trans h2.size hs), fun k hk1 a c => ?_⟩, ?_⟩
  · rw [hk k (Nat.lt_of_lt_of_le hk1 (Nat.le_trans hb.size h2.size)) (.inl hk1), h2.block k (Nat.lt_of_lt_of_le hk1 hb.size) a c]
    exact hb.block k hk1
  · rcases h3 with h3 | h3
    · exact .inl h3
    · exact .inr fun k hk => Nat.le_trans hb.size (h3 k hk)

/-- .. six cells written into one such block. -/
theorem RPost.box {base : Nat} {w w1 w2 : World} {b : Nat} {v : Value} {l l0 : List G} (hN : RAt base w b v l0) (hb : Below w.heap.size w w1) (hp : RPost base w1 b v l w2) (h1 : w.heap.size < w1.heap.size) (cs : List Value) : RPost base w b v l (w2.setCells w.heap.size 0 cs) := by
  have hg := setCells_grown w.heap.size cs 0 w2
  exact RPost.boxes hN hb hp hg.os hg.tape hg.output hg.size (fun k hk hor => heap_setCells_ne _ _ _ _ _ (by omega))

set_option maxHeartbeats 2000000 in
set_option maxRecDepth 100000 in
theorem rpick_any (base b : Nat) (v : Value) (l : List G) (c : Int) (u : Bool) (t : Int) (w : World) (hN : RAt base w b v l) (hl : l.length ≤ 1000000) :
    Calls Try.prog 17 #[.pointer (some ⟨b, 0, none⟩), .int .i64 c, .bool u, .int .i64 t] w (RPullPost base w b v l (plOf l c u t)) := by
  have hB1 : ∀ o, Below w.heap.size w (w.alloc o) := fun o => (Below.refl _ _).alloc (Nat.le_refl _) _
  have hpl : ∀ o, Calls Try.prog 28 #[.pointer (some ⟨b, 0, none⟩), .int .i64 c, .bool u, .int .i64 t] (w.alloc o) _ := fun o => rplace_any base b v l c u t (w.alloc o) (hN.below (hB1 o)) hl
  rcases Int.lt_or_le (plOf l c u t) 0 with hneg | hpos
  · have hq : pullG l (plOf l c u t) = none := by unfold pullG; rw [if_neg (by omega)]
    have hr : pullL l (plOf l c u t) = l := by unfold pullL; rw [if_neg (by omega)]
    have HQ := Lib.hid hq
    have HR := Lib.hid hr
    have HN := Lib.hid hN
    have HB := Lib.hid hB1
    have HPL := Lib.hid hpl
    clear hq hr hN hl hB1 hpl
    generalize plOf l c u t = i at *
    go_enter Try.func17, Try.ntmps17
    go_wp2_with fail
    refine (HPL.out _).mono ?_
    rintro e w1 ⟨rfl, rfl⟩
    go_wp2
    refine bodyPost_ret (v := .tuple #[G.zero.agg, .bool false]) (by simp [results, Try.results17, go_sem, G.agg, G.zero]; rfl) rfl ⟨G.zero, false, by rw [HQ.out]; rfl, by rw [HQ.out]; rfl, rfl, ?_⟩
    rw [HR.out]
    exact RPost.of_below HN.out (HB.out _)
  · obtain ⟨k, hk, x, hx, hw⟩ := plOf_lt hpos
    have hkl : k < l.length := (List.getElem?_eq_some_iff.1 hx).1
    have hq : Hid (pullG l (plOf l c u t) = some x) := by show _ = _; simp [pullG, hk, hx]
    have hr : Hid (pullL l (plOf l c u t) = l.eraseIdx k) := by show _ = _; simp [pullL, hk]
    obtain ⟨A, cap, rfl, hA, hcap, hmax⟩ := row_shape hN.row
    obtain ⟨g, rfl⟩ := hA (by omega)
    unfold maxLen at hmax
    rw [hk] at hpl
    have hdr : ∀ W, Below w.heap.size w W → Calls Try.prog 29 #[.pointer (some ⟨b, 0, none⟩), .int .i64 (k : Int)] W _ := fun W hW => rdrop_any base b g cap l k W (hN.below hW) hkl hl
    have hcell := hN.cell
    have hbl := hN.lt
    have hgl := (hN.row.lt g rfl).2
    obtain ⟨c0, c1, c2, c3, c4, c5⟩ := row_cells hN.row hx
    have HN := Lib.hid hN
    have HD := Lib.hid hdr
    have HPL := Lib.hid hpl
    obtain ⟨n, hn⟩ : ∃ n, n = l.length := ⟨_, rfl⟩
    rw [← hn] at hcell hcap hkl
    have Hn := Lib.hid hn
    clear hN hdr hpl hk hx hw hpos hl hn hA
    go_enter Try.func17, Try.ntmps17
    go_wp2_with fail
    refine (HPL.out _).mono ?_
    rintro e w1 ⟨rfl, rfl⟩
    go_wp2_with fail
    have hB : Below w.heap.size w ((w.alloc (Obj.cells #[Value.int .i64 0, .bool false, .int .i64 0, .int .i64 0, .int .i64 0, .string ⟨#[]⟩] 27)).alloc (Obj.cells #[Value.int .i64 x.c, .bool x.u, .int .i64 x.e, .int .i64 x.s, .int .i64 x.a, .string x.b] 27)) :=
      ((Below.refl _ _).alloc (Nat.le_refl _) _).alloc (by simp) _
    refine (HD.out _ hB).mono ?_
    have b4 : ((w.alloc (Obj.cells #[Value.int .i64 0, .bool false, .int .i64 0, .int .i64 0, .int .i64 0, .string ⟨#[]⟩] 27)).alloc (Obj.cells #[Value.int .i64 x.c, .bool x.u, .int .i64 x.e, .int .i64 x.s, .int .i64 x.a, .string x.b] 27)).heap[w.heap.size]? = some (Obj.cells #[Value.int .i64 0, .bool false, .int .i64 0, .int .i64 0, .int .i64 0, .string ⟨#[]⟩] 27) := by
      rw [Below.heap_alloc _ _ _ (by simp)]; exact World.alloc_heap_new w _
    have b6 : ((w.alloc (Obj.cells #[Value.int .i64 0, .bool false, .int .i64 0, .int .i64 0, .int .i64 0, .string ⟨#[]⟩] 27)).alloc (Obj.cells #[Value.int .i64 x.c, .bool x.u, .int .i64 x.e, .int .i64 x.s, .int .i64 x.a, .string x.b] 27)).heap[w.heap.size + 1]? = some (Obj.cells #[Value.int .i64 x.c, .bool x.u, .int .i64 x.e, .int .i64 x.s, .int .i64 x.a, .string x.b] 27) := by
      have := World.alloc_heap_new (w.alloc (Obj.cells #[Value.int .i64 0, .bool false, .int .i64 0, .int .i64 0, .int .i64 0, .string ⟨#[]⟩] 27)) (Obj.cells #[Value.int .i64 x.c, .bool x.u, .int .i64 x.e, .int .i64 x.s, .int .i64 x.a, .string x.b] 27)
      simpa using this
    have hsz : ((w.alloc (Obj.cells #[Value.int .i64 0, .bool false, .int .i64 0, .int .i64 0, .int .i64 0, .string ⟨#[]⟩] 27)).alloc (Obj.cells #[Value.int .i64 x.c, .bool x.u, .int .i64 x.e, .int .i64 x.s, .int .i64 x.a, .string x.b] 27)).heap.size = w.heap.size + 2 := by simp
    generalize ((w.alloc (Obj.cells #[Value.int .i64 0, .bool false, .int .i64 0, .int .i64 0, .int .i64 0, .string ⟨#[]⟩] 27)).alloc (Obj.cells #[Value.int .i64 x.c, .bool x.u, .int .i64 x.e, .int .i64 x.s, .int .i64 x.a, .string x.b] 27)) = W1 at *
    rintro e w2 ⟨rfl, hp⟩
    have d4 := (RPost.keep HN.out hp (Nat.le_refl _) (by omega)).trans b4
    have d6 := (RPost.keep HN.out hp (Nat.le_succ _) (by omega)).trans b6
    have hl2 : w.heap.size + 2 ≤ w2.heap.size := by
      obtain ⟨_, _, h2, _⟩ := hp
      have := h2.size; omega
    have e0 := cell_of_row w2 _ 0 _ _ _ d4
    have e1 := cell_of_row w2 _ 1 _ _ _ d4
    have e2 := cell_of_row w2 _ 2 _ _ _ d4
    have e3 := cell_of_row w2 _ 3 _ _ _ d4
    have e4 := cell_of_row w2 _ 4 _ _ _ d4
    have e5 := cell_of_row w2 _ 5 _ _ _ d4
    have f0 : ∀ o, w2.frozen? ⟨w.heap.size, o, none⟩ = false := fun o => frozen_at d4
    have g0 := cell_of_row w2 _ 0 _ _ _ d6
    have g1 := cell_of_row w2 _ 1 _ _ _ d6
    have g2 := cell_of_row w2 _ 2 _ _ _ d6
    have g3 := cell_of_row w2 _ 3 _ _ _ d6
    have g4 := cell_of_row w2 _ 4 _ _ _ d6
    have g5 := cell_of_row w2 _ 5 _ _ _ d6
    have HP := Lib.hid (RPost.box HN.out hB hp (by omega) x.cells)
    clear d4 d6 b4 b6 hp hcell c0 c1 c2 c3 c4 c5 hsz HD HPL
    go_wp2
    refine bodyPost_ret (v := .tuple #[x.agg, .bool true]) (by simp [results, Try.results17, go_sem, G.agg, e0, e1, e2, e3, e4, e5]) rfl ⟨x, true, by rw [hq.out]; rfl, by rw [hq.out]; rfl, rfl, ?_⟩
    rw [hr.out]
    exact HP.out

set_option maxHeartbeats 2000000 in
set_option maxRecDepth 100000 in
theorem reldest_any (base b : Nat) (v : Value) (l : List G) (w : World) (hN : RAt base w b v l) (hl : l.length ≤ 1000000) :
    Calls Try.prog 19 #[.pointer (some ⟨b, 0, none⟩)] w (RPullPost base w b v l 0) := by
  have hB1 : ∀ o, Below w.heap.size w (w.alloc o) := fun o => (Below.refl _ _).alloc (Nat.le_refl _) _
  obtain ⟨A, cap, rfl, hA, hcap, hmax⟩ := row_shape hN.row
  unfold maxLen at hmax
  have hcell := hN.cell
  have hbl := hN.lt
  cases l with
  | nil =>
    have HN := Lib.hid hN
    have HB := Lib.hid hB1
    simp only [List.length_nil] at hcell
    clear hN hl hB1 hA hcap
    go_enter Try.func19, Try.ntmps19
    go_wp2
    refine bodyPost_ret (v := .tuple #[G.zero.agg, .bool false]) (by simp [results, Try.results19, go_sem, G.agg, G.zero]; rfl) rfl ⟨G.zero, false, rfl, rfl, rfl, ?_⟩
    exact RPost.of_below HN.out (HB.out _)
  | cons x m =>
    obtain ⟨g, rfl⟩ := hA (by simp)
    have hdr : ∀ W, Below w.heap.size w W → Calls Try.prog 29 #[.pointer (some ⟨b, 0, none⟩), .int .i64 ((0 : Nat) : Int)] W _ := fun W hW => rdrop_any base b g cap (x :: m) 0 W (hN.below hW) (by simp) hl
    have hgl := (hN.row.lt g rfl).2
    obtain ⟨c0, c1, c2, c3, c4, c5⟩ := row_cells hN.row (i := 0) (x := x) rfl
    have HN := Lib.hid hN
    have HD := Lib.hid hdr
    obtain ⟨n, hn⟩ : ∃ n, n = (x :: m).length := ⟨_, rfl⟩
    rw [← hn] at hcell hcap
    have hkl : 0 < n := by rw [hn]; simp
    have hkb : ((n : Int) == 0) = false := by simp; omega
    simp only [Nat.zero_mul, Nat.zero_add] at c0 c1 c2 c3 c4 c5
    have Hn := Lib.hid hn
    clear hN hdr hl hn hA
    go_enter Try.func19, Try.ntmps19
    go_wp2_with fail
    have hB : Below w.heap.size w ((w.alloc (Obj.cells #[Value.int .i64 0, .bool false, .int .i64 0, .int .i64 0, .int .i64 0, .string ⟨#[]⟩] 27)).alloc (Obj.cells #[Value.int .i64 x.c, .bool x.u, .int .i64 x.e, .int .i64 x.s, .int .i64 x.a, .string x.b] 27)) :=
      ((Below.refl _ _).alloc (Nat.le_refl _) _).alloc (by simp) _
    refine (HD.out _ hB).mono ?_
    have b4 : ((w.alloc (Obj.cells #[Value.int .i64 0, .bool false, .int .i64 0, .int .i64 0, .int .i64 0, .string ⟨#[]⟩] 27)).alloc (Obj.cells #[Value.int .i64 x.c, .bool x.u, .int .i64 x.e, .int .i64 x.s, .int .i64 x.a, .string x.b] 27)).heap[w.heap.size]? = some (Obj.cells #[Value.int .i64 0, .bool false, .int .i64 0, .int .i64 0, .int .i64 0, .string ⟨#[]⟩] 27) := by
      rw [Below.heap_alloc _ _ _ (by simp)]; exact World.alloc_heap_new w _
    have b6 : ((w.alloc (Obj.cells #[Value.int .i64 0, .bool false, .int .i64 0, .int .i64 0, .int .i64 0, .string ⟨#[]⟩] 27)).alloc (Obj.cells #[Value.int .i64 x.c, .bool x.u, .int .i64 x.e, .int .i64 x.s, .int .i64 x.a, .string x.b] 27)).heap[w.heap.size + 1]? = some (Obj.cells #[Value.int .i64 x.c, .bool x.u, .int .i64 x.e, .int .i64 x.s, .int .i64 x.a, .string x.b] 27) := by
      have := World.alloc_heap_new (w.alloc (Obj.cells #[Value.int .i64 0, .bool false, .int .i64 0, .int .i64 0, .int .i64 0, .string ⟨#[]⟩] 27)) (Obj.cells #[Value.int .i64 x.c, .bool x.u, .int .i64 x.e, .int .i64 x.s, .int .i64 x.a, .string x.b] 27)
      simpa using this
    have hsz : ((w.alloc (Obj.cells #[Value.int .i64 0, .bool false, .int .i64 0, .int .i64 0, .int .i64 0, .string ⟨#[]⟩] 27)).alloc (Obj.cells #[Value.int .i64 x.c, .bool x.u, .int .i64 x.e, .int .i64 x.s, .int .i64 x.a, .string x.b] 27)).heap.size = w.heap.size + 2 := by simp
    generalize ((w.alloc (Obj.cells #[Value.int .i64 0, .bool false, .int .i64 0, .int .i64 0, .int .i64 0, .string ⟨#[]⟩] 27)).alloc (Obj.cells #[Value.int .i64 x.c, .bool x.u, .int .i64 x.e, .int .i64 x.s, .int .i64 x.a, .string x.b] 27)) = W1 at *
    rintro e w2 ⟨rfl, hp⟩
    have d4 := (RPost.keep HN.out hp (Nat.le_refl _) (by omega)).trans b4
    have d6 := (RPost.keep HN.out hp (Nat.le_succ _) (by omega)).trans b6
    have hl2 : w.heap.size + 2 ≤ w2.heap.size := by
      obtain ⟨_, _, h2, _⟩ := hp
      have := h2.size; omega
    have e0 := cell_of_row w2 _ 0 _ _ _ d4
    have e1 := cell_of_row w2 _ 1 _ _ _ d4
    have e2 := cell_of_row w2 _ 2 _ _ _ d4
    have e3 := cell_of_row w2 _ 3 _ _ _ d4
    have e4 := cell_of_row w2 _ 4 _ _ _ d4
    have e5 := cell_of_row w2 _ 5 _ _ _ d4
    have f0 : ∀ o, w2.frozen? ⟨w.heap.size, o, none⟩ = false := fun o => frozen_at d4
    have g0 := cell_of_row w2 _ 0 _ _ _ d6
    have g1 := cell_of_row w2 _ 1 _ _ _ d6
    have g2 := cell_of_row w2 _ 2 _ _ _ d6
    have g3 := cell_of_row w2 _ 3 _ _ _ d6
    have g4 := cell_of_row w2 _ 4 _ _ _ d6
    have g5 := cell_of_row w2 _ 5 _ _ _ d6
    have HP := Lib.hid (RPost.box HN.out hB hp (by omega) x.cells)
    clear d4 d6 b4 b6 hp hcell c0 c1 c2 c3 c4 c5 hsz HD
    go_wp2
    refine bodyPost_ret (v := .tuple #[x.agg, .bool true]) (by simp [results, Try.results19, go_sem, G.agg, e0, e1, e2, e3, e4, e5]) rfl ⟨x, true, rfl, rfl, rfl, ?_⟩
    exact HP.out

def RCopyPost (base : Nat) (w : World) (b : Nat) (v : Value) (l : List G) (c : Int) (u : Bool) (t : Int) (e : Ending) (w' : World) : Prop :=
  e = .returned (.bool (copyB l c u t)) ∧ RPost base w b v (copyL l c u t) w'

set_option maxHeartbeats 1000000 in
set_option maxRecDepth 100000 in
theorem rcopy_any (base b : Nat) (v : Value) (l : List G) (c : Int) (u : Bool) (t : Int) (w : World) (hN : RAt base w b v l) (hl : l.length ≤ 1000000) :
    Calls Try.prog 18 #[.pointer (some ⟨b, 0, none⟩), .int .i64 c, .bool u, .int .i64 t] w (RCopyPost base w b v l c u t) := by
  have hp0 := rplace_any base b v l c u t w hN hl
  have HN := Lib.hid hN
  rcases Int.lt_or_le (plOf l c u t) 0 with hneg | hpos
  · have h1 : Hid (copyB l c u t = false) := by show _ = _; simp [copyB, pullG, show ¬ 0 ≤ plOf l c u t by omega]
    have h2 : Hid (copyL l c u t = l) := by show _ = _; simp [copyL, pullG, show ¬ 0 ≤ plOf l c u t by omega]
    generalize plOf l c u t = i at *
    clear hN
    have hni : decide (0 ≤ i) = false := by simpa using hneg
    go_enter Try.func18, Try.ntmps18
    go_wp2_with fail
    refine hp0.mono ?_
    rintro e w1 ⟨rfl, rfl⟩
    go_wp2_with fail
    go_ret
    refine ⟨congrArg (fun z => Ending.returned (Value.bool z)) h1.out.symm, ?_⟩
    rw [h2.out]
    exact RPost.of_below HN.out (Below.refl _ _)
  · obtain ⟨k, hk, x, hx, hw⟩ := plOf_lt hpos
    have h1 : Hid (copyB l c u t = (putCode l x == 0)) := by show _ = _; simp [copyB, pullG, hk, hx]
    have h2 : Hid (copyL l c u t = putList l x) := by show _ = _; simp [copyL, pullG, hk, hx]
    have hlt : k < l.length := (List.getElem?_eq_some_iff.1 hx).1
    obtain ⟨A, cap, rfl, hA, hcap, hmax⟩ := row_shape hN.row
    obtain ⟨g, rfl⟩ := hA (by omega)
    unfold maxLen at hmax
    have hput := rput_any base b _ l x w hN hl
    have hcell := hN.cell
    obtain ⟨c0, c1, c2, c3, c4, c5⟩ := row_cells hN.row hx
    rw [hk] at hp0
    clear hN hx hk
    go_enter Try.func18, Try.ntmps18
    go_wp2_with fail
    refine hp0.mono ?_
    rintro e w1 ⟨rfl, rfl⟩
    go_wp2_with fail
    refine hput.mono ?_
    rintro e w2 ⟨rfl, hnp⟩
    have HNP := Lib.hid hnp
    clear hnp
    go_wp2
    go_ret
    refine ⟨congrArg (fun z => Ending.returned (Value.bool z)) (by rw [h1.out]), ?_⟩
    rw [h2.out]
    exact HNP.out
end Go.Proofs.Ytgfklingekiflaa
