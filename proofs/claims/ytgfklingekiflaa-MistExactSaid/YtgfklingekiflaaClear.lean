/- The walks of slices.IndexFunc, slices.DeleteFunc, mist.Clear, and of all calls on a net that is nil. -/
import Derived.Deep.RegionLaw
import Derived.Deep.LoopGhost
import Derived.Test.YtgfklingekiflaaPick
namespace Go.Proofs.Ytgfklingekiflaa
open Go.RowKit Go.Shelf
set_option linter.unusedSimpArgs false

/-! ### Clear -/
theorem clear1_any (x : G) (c : Int) (B : Nat) (w : World) (hc : w.cell? ⟨B, 0, none⟩ = some (.int .i64 c)) :
    Calls Try.prog 27 #[.agg #[.int .i64 x.c, .bool x.u, .int .i64 x.e, .int .i64 x.s, .int .i64 x.a, .string x.b], .pointer (some ⟨B, 0, none⟩)] w fun e w' => e = .returned (.bool (x.c == c)) ∧ Below w.heap.size w w' := by
  have hl := World.block_lt_of_cell? _ _ hc
  go_enter Try.func27, Try.ntmps27
  go_wp2
  go_ret
  exact ⟨rfl, (Below.refl _ _).alloc (Nat.le_refl _) _⟩

def isOf (c : Int) (g : G) : Bool := g.c == c
/-- the place of the first one of a client among the places from k on, -1: none -/
def idxOf (l : List G) (c : Int) : Int := match l.findIdx? (isOf c) with | some i => (i : Int) | none => -1

theorem idxOf_none {l : List G} {c : Int} (h : ∀ x ∈ l, isOf c x = false) : idxOf l c = -1 := by
  have : l.findIdx? (isOf c) = none := by simpa [List.findIdx?_eq_none_iff] using h
  simp [idxOf, this]
theorem idxOf_some {l : List G} {c : Int} {k : Nat} {x : G} (hk : l[k]? = some x) (hx : isOf c x = true) (h : ∀ j y, j < k → l[j]? = some y → isOf c y = false) : idxOf l c = (k : Int) := by
  have hlt := (List.getElem?_eq_some_iff.1 hk).1
  have hxe := (List.getElem?_eq_some_iff.1 hk).2
  have : l.findIdx? (isOf c) = some k := by
    rw [List.findIdx?_eq_some_iff_getElem]
    refine ⟨hlt, by rw [hxe]; exact hx, fun j hj => ?_⟩
    rw [h j _ hj (List.getElem?_eq_getElem (by omega))]
    simp
  simp [idxOf, this]

set_option maxHeartbeats 2000000 in
set_option maxRecDepth 100000 in
theorem index_any (base : Nat) (A : Option Addr) (cap : Nat) (l : List G) (c : Int) (B : Nat) (w : World) (hrow : w.ownsRow base 27 6 (.slice A l.length cap) l.length (rows l)) (hc : w.cell? ⟨B, 0, none⟩ = some (.int .i64 c)) :
    Calls Try.prog 35 #[.slice A l.length cap, .func (.func 27) #[] #[.pointer (some ⟨B, 0, none⟩)]] w fun e w' => e = .returned (.int .i64 (idxOf l c)) ∧ Below w.heap.size w w' := by
  obtain ⟨A', cap', hv, hA, hcap, hmax⟩ := row_shape hrow
  obtain ⟨rfl, rfl⟩ : A = A' ∧ cap = cap' := by simpa using hv
  clear hv
  unfold maxLen at hmax
  have hbl := World.block_lt_of_cell? _ _ hc
  go_enter Try.func35, Try.ntmps35
  go_wp2
  go_loopw [8] (fun i wr => ∃ k : Nat, k ≤ l.length ∧ i = .int .i64 k ∧ Below w.heap.size w wr ∧ Hid (∀ j y, j < k → l[j]? = some y → isOf c y = false)) (fun i _ => l.length - (intOf i).toNat)
  case atStart => exact ⟨0, Nat.zero_le _, rfl, Below.refl _ _, fun j _ h => absurd h (by omega)⟩
  case round =>
    obtain ⟨k, hk, rfl, hB, hno⟩ := hrel
    by_cases hlt : k < l.length
    · obtain ⟨g, rfl⟩ := hA (by omega)
      obtain ⟨x, hx⟩ : ∃ x, l[k]? = some x := ⟨l[k], by simp [hlt]⟩
      have hrw := ownsRow_same hrow (W' := wr) (fun k hk => hB.block k (hrow.lt k hk).2)
      obtain ⟨c0, c1, c2, c3, c4, c5⟩ := row_cells hrw hx
      have hcl := clear1_any x c B wr ((hB.cell (p := ⟨B, 0, none⟩) hbl).trans hc)
      have Hx := Lib.hid hx
      have HR := Lib.hid hrow
      clear hx hrw hrow
      cases hxc : (x.c == c) with
      | true =>
        have HXC := Lib.hid hxc
        rw [hxc] at hcl
        clear hxc
        go_wp2_with (go_at_call 27; refine hcl.mono ?_; rintro e w2 ⟨rfl, hb2⟩)
        go_ret
        refine ⟨congrArg (fun z => Ending.returned (Value.int .i64 z)) (idxOf_some Hx.out HXC.out hno.out).symm, hB.trans (hb2.mono hB.size)⟩
      | false =>
        have HXC := Lib.hid hxc
        rw [hxc] at hcl
        clear hxc
        go_wp2_with (go_at_call 27; refine hcl.mono ?_; rintro e w2 ⟨rfl, hb2⟩)
        go_roundw
        case rel =>
          refine ⟨k + 1, by omega, by simp, hB.trans (hb2.mono hB.size), fun j y hj hy => ?_⟩
          rcases Nat.lt_or_ge j k with h | h
          · exact hno.out j y h hy
          · obtain rfl : j = k := by omega
            rw [Hx.out] at hy; cases hy; exact HXC.out
        case measure => simp [intOf]; omega
    · obtain rfl : k = l.length := by omega
      go_wp2
      go_ret
      refine ⟨congrArg (fun z => Ending.returned (Value.int .i64 z)) (idxOf_none fun x hx => ?_).symm, hB⟩
      obtain ⟨j, hj, rfl⟩ := List.getElem_of_mem hx
      exact hno.out j _ hj (by simp)

/-! slices.DeleteFunc -/
def notOf (c : Int) (g : G) : Bool := !(g.c == c)

/-- What stands in the row behind j elements: those that are kept, then what was. -/
structure Part (l : List G) (c : Int) (j : Nat) (cur0 cur : Array Value) (i : Nat) : Prop where
  i_eq : i = ((l.take j).filter (notOf c)).length
  size : cur.size = cur0.size
  front : cur.toList.take (i * 6) = rows ((l.take j).filter (notOf c))
  back : ∀ t, j * 6 ≤ t → cur[t]? = cur0[t]?

theorem Part.le {l : List G} {c : Int} {j i : Nat} {cur0 cur : Array Value} (h : Part l c j cur0 cur i) (hj : j ≤ l.length) : i ≤ j := by
  rw [h.i_eq]
  exact Nat.le_trans (List.length_filter_le _ _) (by simp; omega)

theorem take_filter_succ {l : List G} {j : Nat} {x : G} (c : Int) (hx : l[j]? = some x) : (l.take (j + 1)).filter (notOf c) = (l.take j).filter (notOf c) ++ (if notOf c x then [x] else []) := by
  rw [List.take_add_one, hx]
  simp only [Option.toList_some, List.filter_append, List.filter_cons, List.filter_nil]

theorem Part.skip {l : List G} {c : Int} {j i : Nat} {cur0 cur : Array Value} {x : G} (h : Part l c j cur0 cur i) (hx : l[j]? = some x) (hn : notOf c x = false) : Part l c (j + 1) cur0 cur i := by
  have e := take_filter_succ c hx
  rw [hn] at e
  simp at e
  exact ⟨by rw [e]; exact h.i_eq, h.size, by rw [e]; exact h.front, fun t ht => h.back t (by omega)⟩

theorem Part.keep {l : List G} {c : Int} {j i : Nat} {cur0 cur cur' : Array Value} {x : G} (h : Part l c j cur0 cur i) (hx : l[j]? = some x) (hn : notOf c x = true) (hij : i ≤ j) (hsz : (j + 1) * 6 ≤ cur0.size)
    (hc : cur'.toList = cur.toList.take (i * 6) ++ x.cells ++ cur.toList.drop (i * 6 + x.cells.length)) : Part l c (j + 1) cur0 cur' (i + 1) := by
  have hs := h.size
  have e := take_filter_succ c hx
  rw [hn] at e
  simp at e
  have h6 : x.cells.length = 6 := rfl
  have hlen : cur'.size = cur.size := by
    have := congrArg List.length hc
    simp only [List.length_append, List.length_take, List.length_drop, Array.length_toList, h6] at this
    omega
  refine ⟨by rw [e, h.i_eq]; simp, by omega, ?_, fun t ht => ?_⟩
  · rw [e, hc, List.append_assoc]
    rw [show (i + 1) * 6 = i * 6 + 6 by omega]
    have hl : (cur.toList.take (i * 6)).length = i * 6 := by simp; omega
    rw [List.take_append, hl, List.take_of_length_le (by omega), h.front, rows_append]
    congr 1
    rw [List.take_append_of_le_length (by omega), List.take_of_length_le (by omega)]
    simp [rows]
  · rw [← h.back t (by omega)]
    have := congrArg (fun q => q[t]?) hc
    simp only [Array.getElem?_toList] at this
    rw [this, h6, List.getElem?_append_right (by simp [h6]; omega), List.getElem?_drop]
    simp [h6]
    congr 1
    omega

theorem zeros_len (n : Nat) : ((Builtin.zeroCells (Value.cells (.agg #[.int .i64 0, .bool false, .int .i64 0, .int .i64 0, .int .i64 0, .string ByteArray.empty])) n).toList).length = n * 6 := by
  rw [Array.length_toList, size_zeroCells]; rfl
theorem zeros_one (n : Nat) : ∀ v ∈ (Builtin.zeroCells (Value.cells (.agg #[.int .i64 0, .bool false, .int .i64 0, .int .i64 0, .int .i64 0, .string ByteArray.empty])) n).toList, v.oneCell' = true := by
  intro v hv
  simp only [Builtin.zeroCells, Value.cells] at hv
  simp at hv
  obtain ⟨a, ha, rfl⟩ := hv
  have h6 : a % 6 < 6 := Nat.mod_lt _ (by decide)
  generalize a % 6 = r at *
  match r, h6 with
  | 0, _ => rfl
  | 1, _ => rfl
  | 2, _ => rfl
  | 3, _ => rfl
  | 4, _ => rfl
  | 5, _ => rfl

theorem grown_of_below {w w' : World} (h : Below w.heap.size w w') (row : Option Nat) : w.grownBy w' row := ⟨h.os, h.tape, h.output, h.size, fun k hk _ => h.block k hk⟩

theorem some_at (cur : Array Value) (i : Nat) (h : i < cur.size) : ∃ u, cur[i]? = some u := ⟨cur[i], by simp [h]⟩

theorem part_cells {W : World} {g : Nat} {l : List G} {c : Int} {j i : Nat} {cur0 cur : Array Value} {x : G} (h : Part l c j cur0 cur i) (hl : ∀ t, t < l.length * 6 → cur0[t]? = (rows l)[t]?) (hx : l[j]? = some x) (hg : W.heap[g]? = some (.cells cur 27 (0, 0))) :
    W.cell? ⟨g, j * 6, none⟩ = some (.int .i64 x.c) ∧ W.cell? ⟨g, j * 6 + 1, none⟩ = some (.bool x.u) ∧ W.cell? ⟨g, j * 6 + 2, none⟩ = some (.int .i64 x.e) ∧
    W.cell? ⟨g, j * 6 + 3, none⟩ = some (.int .i64 x.s) ∧ W.cell? ⟨g, j * 6 + 4, none⟩ = some (.int .i64 x.a) ∧ W.cell? ⟨g, j * 6 + 5, none⟩ = some (.string x.b) := by
  have hlt : j < l.length := (List.getElem?_eq_some_iff.1 hx).1
  have key : ∀ r, r < 6 → W.cell? ⟨g, j * 6 + r, none⟩ = x.cells[r]? := fun r hr => by
    rw [cell_of_row W g _ cur 27 (0, 0) hg, h.back _ (by omega), hl _ (by omega), rows_at _ _ _ hr, hx]; rfl
  exact ⟨key 0 (by decide), key 1 (by decide), key 2 (by decide), key 3 (by decide), key 4 (by decide), key 5 (by decide)⟩

set_option maxHeartbeats 2000000 in
set_option maxRecDepth 100000 in
theorem deletefunc_none (base : Nat) (A : Option Addr) (cap : Nat) (l : List G) (c : Int) (B : Nat) (w : World) (hrow : w.ownsRow base 27 6 (.slice A l.length cap) l.length (rows l)) (hc : w.cell? ⟨B, 0, none⟩ = some (.int .i64 c)) (hno : ∀ x ∈ l, isOf c x = false) :
    Calls Try.prog 26 #[.slice A l.length cap, .func (.func 27) #[] #[.pointer (some ⟨B, 0, none⟩)]] w fun e w' => e = .returned (.slice A l.length cap) ∧ Below w.heap.size w w' := by
  have hi := index_any base A cap l c B w hrow hc
  rw [idxOf_none hno] at hi
  clear hno hrow hc
  go_enter Try.func26, Try.ntmps26
  go_wp2_with (go_at_call 35; refine hi.mono ?_; rintro e w2 ⟨rfl, hb2⟩)
  go_ret
  exact ⟨rfl, hb2⟩

set_option maxHeartbeats 4000000 in
set_option maxRecDepth 100000 in
theorem deletefunc_some (base g cap : Nat) (l : List G) (c : Int) (B k : Nat) (x0 : G) (w : World) (hrow : w.ownsRow base 27 6 (.slice (some ⟨g, 0, none⟩) l.length cap) l.length (rows l)) (hc : w.cell? ⟨B, 0, none⟩ = some (.int .i64 c)) (hBg : B ≠ g)
    (hk : l[k]? = some x0) (hx0 : isOf c x0 = true) (hno : ∀ j y, j < k → l[j]? = some y → isOf c y = false) :
    Calls Try.prog 26 #[.slice (some ⟨g, 0, none⟩) l.length cap, .func (.func 27) #[] #[.pointer (some ⟨B, 0, none⟩)]] w fun e w' =>
      e = .returned (.slice (some ⟨g, 0, none⟩) (l.filter (notOf c)).length cap) ∧ w'.ownsRow base 27 6 (.slice (some ⟨g, 0, none⟩) (l.filter (notOf c)).length cap) (l.filter (notOf c)).length (rows (l.filter (notOf c))) ∧ w.grownBy w' (some g) := by
  have hi := index_any base _ cap l c B w hrow hc
  rw [idxOf_some hk hx0 hno] at hi
  have hkl : k < l.length := (List.getElem?_eq_some_iff.1 hk).1
  have hgl := (hrow.lt g rfl).2
  have hbl := World.block_lt_of_cell? _ _ hc
  rcases hrow.2 with ⟨h, _⟩ | ⟨g', cap', cur0, hv, hbg, hgh, hnc, hcm, hcs, htk⟩
  · cases h
  obtain ⟨rfl, rfl⟩ : g = g' ∧ cap = cap' := by simpa using hv
  unfold maxLen at hcm
  -- nothing of the client's stands ahead of k
  have hf0 : (l.take k).filter (notOf c) = l.take k := by
    rw [List.filter_eq_self]
    intro y hy
    obtain ⟨j, hj, rfl⟩ := List.getElem_of_mem hy
    have hj' : j < k := by simp at hj; omega
    have := hno j l[j] hj' (by simp)
    simp [isOf] at this
    simp [notOf, this]
  have hstart : Part l c (k + 1) cur0 cur0 k := by
    have e := take_filter_succ c hk
    have : notOf c x0 = false := by simp [notOf, isOf] at hx0 ⊢; exact hx0
    rw [this, hf0] at e
    simp at e
    refine ⟨by rw [e]; simp; omega, rfl, ?_, fun _ _ => rfl⟩
    rw [e]
    have h : cur0.toList.take (k * 6) = (cur0.toList.take (l.length * 6)).take (k * 6) := by rw [List.take_take]; congr 1; omega
    rw [h, htk, rows_take]
  have hlist : ∀ t, t < l.length * 6 → cur0[t]? = (rows l)[t]? := fun t ht => by
    rw [← htk, List.getElem?_take, if_pos ht, Array.getElem?_toList]
  have HS := Lib.hid hstart
  have HL := Lib.hid hlist
  have hlc := hnc
  clear hno hrow hk hf0 hstart hlist hv htk
  go_enter Try.func26, Try.ntmps26
  go_wp2_with (go_at_call 35; refine hi.mono ?_; rintro e w1 ⟨rfl, hb1⟩)
  go_loopw [5, 6] (fun iv jv wr => ∃ i j : Nat, iv = .int .i64 i ∧ jv = .int .i64 j ∧ i < j ∧ j ≤ l.length ∧ w.grownBy wr (some g) ∧ ∃ cur, wr.heap[g]? = some (.cells cur 27 (0, 0)) ∧ Part l c j cur0 cur i) (fun _ jv _ => l.length - (intOf jv).toNat)
  case atStart => exact ⟨k, k + 1, rfl, by simp, by omega, by omega, grown_of_below hb1 _, cur0, (hb1.block g hgl).trans hgh, HS.out⟩
  case round =>
    obtain ⟨i, j, rfl, rfl, hij, hjl, hgw, cur, hg, hP⟩ := hrel
    have HP := Lib.hid hP
    have hcsz : Hid (cur.size = cap * 6) := hP.size.trans hcs
    clear hP
    have hBw : wr.cell? ⟨B, 0, none⟩ = some (.int .i64 c) := hgw.cell hc (by simpa using hBg)
    have hwr : w.heap.size ≤ wr.heap.size := hgw.size
    have hlen := l.length
    by_cases hlt : j < l.length
    · obtain ⟨x, hx⟩ : ∃ x, l[j]? = some x := ⟨l[j], by simp [hlt]⟩
      obtain ⟨c0, c1, c2, c3, c4, c5⟩ := part_cells HP.out HL.out hx hg
      have hcl : ∀ o, Calls Try.prog 27 #[.agg #[.int .i64 x.c, .bool x.u, .int .i64 x.e, .int .i64 x.s, .int .i64 x.a, .string x.b], .pointer (some ⟨B, 0, none⟩)] (wr.alloc o) _ := fun o => clear1_any x c B (wr.alloc o) ((((Below.refl _ wr).alloc (Nat.le_refl _) o).cell (p := ⟨B, 0, none⟩) (World.block_lt_of_cell? _ _ hBw)).trans hBw)
      have Hx := Lib.hid hx
      have Hg := Lib.hid hg
      have HGW := Lib.hid hgw
      clear hx hg hgw hc hgh
      cases hxc : (x.c == c) with
      | true =>
        have HXC := Lib.hid hxc
        rw [hxc] at hcl
        clear hxc
        go_wp2_with (go_at_call 27; refine (hcl _).mono ?_; rintro e w2 ⟨rfl, hb2⟩)
        go_roundw
        case rel =>
          have hG2 : w.grownBy w2 (some g) := grownBy_trans HGW.out (grownBy_trans (World.grownBy_alloc wr _ _) (grown_of_below hb2 _))
          repeat apply Exists.intro
          refine ⟨⟨i, j + 1, rfl, ?_, by omega, by omega, hG2, cur, ?_, HP.out.skip Hx.out (by simp [notOf, HXC.out])⟩, rfl⟩
          · simp
          have hgr : g < wr.heap.size := (Array.getElem?_eq_some_iff.1 Hg.out).1
          rw [hb2.block g (by simp; omega), Below.heap_alloc _ _ _ hgr]; exact Hg.out
        case measure => simp [intOf]; omega
      | false =>
        have HXC := Lib.hid hxc
        rw [hxc] at hcl
        clear hxc
        have hgr : g < wr.heap.size := (Array.getElem?_eq_some_iff.1 Hg.out).1
        go_wp2_with (go_at_call 27; refine (hcl _).mono ?_; rintro e w2 ⟨rfl, hb2⟩; have hg2 := (hb2.block g (by simp; omega)).trans ((Below.heap_alloc wr _ g hgr).trans Hg.out); have d2 := (hb2.block wr.heap.size (by simp)).trans (World.alloc_heap_new wr _); obtain ⟨q0, hq0⟩ := some_at cur (i * 6) (by rw [hcsz.out]; omega); obtain ⟨q1, hq1⟩ := some_at cur (i * 6 + 1) (by rw [hcsz.out]; omega); obtain ⟨q2, hq2⟩ := some_at cur (i * 6 + 2) (by rw [hcsz.out]; omega); obtain ⟨q3, hq3⟩ := some_at cur (i * 6 + 3) (by rw [hcsz.out]; omega); obtain ⟨q4, hq4⟩ := some_at cur (i * 6 + 4) (by rw [hcsz.out]; omega); obtain ⟨q5, hq5⟩ := some_at cur (i * 6 + 5) (by rw [hcsz.out]; omega); have s0 := (cell_of_row w2 g _ _ _ _ hg2).trans hq0; have s1 := (cell_of_row w2 g _ _ _ _ hg2).trans hq1; have s2 := (cell_of_row w2 g _ _ _ _ hg2).trans hq2; have s3 := (cell_of_row w2 g _ _ _ _ hg2).trans hq3; have s4 := (cell_of_row w2 g _ _ _ _ hg2).trans hq4; have s5 := (cell_of_row w2 g _ _ _ _ hg2).trans hq5; have g0 := cell_of_row w2 _ 0 _ _ _ d2; have g1 := cell_of_row w2 _ 1 _ _ _ d2; have g2 := cell_of_row w2 _ 2 _ _ _ d2; have g3 := cell_of_row w2 _ 3 _ _ _ d2; have g4 := cell_of_row w2 _ 4 _ _ _ d2; have g5 := cell_of_row w2 _ 5 _ _ _ d2; have hfz : ∀ o, w2.frozen? ⟨g, o, none⟩ = false := fun o => frozen_at hg2; have Hg2 := Lib.hid hg2; have HB2 := Lib.hid hb2; clear hg2 d2 hb2 hq0 hq1 hq2 hq3 hq4 hq5)
        go_roundw
        case rel =>
          have hG2 : w.grownBy w2 (some g) := grownBy_trans HGW.out (grownBy_trans (World.grownBy_alloc wr _ _) (grown_of_below HB2.out _))
          obtain ⟨cur', hc1, hc2⟩ := heap_setCells g x.cells (i * 6) w2 cur 27 (0, 0) Hg2.out (by rw [hcsz.out]; simp [G.cells]; omega)
          repeat apply Exists.intro
          refine ⟨⟨i + 1, j + 1, ?_, ?_, by omega, by omega, grownBy_trans hG2 (setCells_grown g x.cells (i * 6) w2), cur', hc1, HP.out.keep Hx.out (by simp [notOf, HXC.out]) (by omega) (by rw [hcs]; omega) hc2⟩, rfl⟩
          · simp
          · simp
        case measure => simp [intOf]; omega
    · obtain rfl : j = l.length := by omega
      have hPo := HP.out
      have hif : i = (l.filter (notOf c)).length := by have := hPo.i_eq; rwa [List.take_length] at this
      have hfr : cur.toList.take (i * 6) = rows (l.filter (notOf c)) := by have := hPo.front; rwa [List.take_length] at this
      obtain ⟨zs, hzs⟩ : ∃ zs, zs = (Builtin.zeroCells (Value.cells (.agg #[.int .i64 0, .bool false, .int .i64 0, .int .i64 0, .int .i64 0, .string ByteArray.empty])) (l.length - i)).toList := ⟨_, rfl⟩
      have hzl : zs.length = (l.length - i) * 6 := by rw [hzs]; exact zeros_len _
      have hcl : ∀ ty, (Builtin.clear_ #[22] ty #[.slice (some ⟨g, i * 6, none⟩) (l.length - i) (cap - i)]).run Try.prog wr = .ok (.tuple #[]) (wr.setCells g (i * 6) zs) := fun ty =>
        run_clear_cells wr 22 27 ty _ Try.underlying22 zeroValue27 g _ _ _ zs (by omega) hzs.symm (by rw [hzs]; exact zeros_one _) (fun t ht => by rw [cell_of_row _ g _ cur 27 (0, 0) hg, Array.getElem?_eq_getElem (by rw [hcsz.out]; omega)]; rfl) (fun t ht => frozen_at hg)
      obtain ⟨cur', hc1, hc2⟩ := heap_setCells g zs (i * 6) wr cur 27 (0, 0) hg (by rw [hcsz.out, hzl]; omega)
      have hend : Hid ((wr.setCells g (i * 6) zs).ownsRow base 27 6 (.slice (some ⟨g, 0, none⟩) i cap) i (rows (l.filter (notOf c))) ∧ w.grownBy (wr.setCells g (i * 6) zs) (some g)) := by
        refine ⟨⟨by rw [rows_length]; omega, .inr ⟨g, cap, cur', rfl, hbg, hc1, by omega, by unfold maxLen; omega, ?_, ?_⟩⟩, grownBy_trans hgw (setCells_grown _ _ _ _)⟩
        · have := congrArg List.length hc2
          have hs := hcsz.out
          simp only [List.length_append, List.length_take, List.length_drop, Array.length_toList, hzl] at this
          rw [← hs, this, hs]; omega
        · have hs := hcsz.out
          rw [hc2, List.append_assoc, List.take_append_of_le_length (by simp; omega), List.take_take, Nat.min_self, hfr]
      have HIF := Lib.hid hif
      have hic : i < cap := by omega
      clear hzs hzl hc1 hc2 hfr hif hPo hg hgh
      go_wp2
      go_ret
      rw [← HIF.out]
      exact ⟨rfl, hend.out⟩

def clearN (l : List G) (c : Int) : Int := (l.length : Int) - ((l.filter (notOf c)).length : Int)
def ClearPost (base : Nat) (w : World) (b : Nat) (v : Value) (l : List G) (c : Int) (e : Ending) (w' : World) : Prop :=
  e = .returned (.int .i64 (clearN l c)) ∧ NetPost base w b v (l.filter (notOf c)) w'

theorem clear_nil (c : Int) (w : World) : Calls Try.prog 14 #[.pointer none, .int .i64 c] w fun e w' => e = .returned (.int .i64 0) ∧ Below w.heap.size w w' := by
  go_enter Try.func14, Try.ntmps14
  go_wp2
  go_ret
  exact ⟨rfl, (Below.refl _ _).alloc (Nat.le_refl _) _⟩

/-- DeleteFunc at whatever slice: what it hands back, and where it lies. -/
theorem deletefunc_any (base : Nat) (A : Option Addr) (cap : Nat) (l : List G) (c : Int) (B : Nat) (w : World) (hrow : w.ownsRow base 27 6 (.slice A l.length cap) l.length (rows l)) (hc : w.cell? ⟨B, 0, none⟩ = some (.int .i64 c)) (hB : ∀ g, A = some ⟨g, 0, none⟩ → B ≠ g) :
    Calls Try.prog 26 #[.slice A l.length cap, .func (.func 27) #[] #[.pointer (some ⟨B, 0, none⟩)]] w fun e w' =>
      e = .returned (.slice A (l.filter (notOf c)).length cap) ∧ w'.ownsRow base 27 6 (.slice A (l.filter (notOf c)).length cap) (l.filter (notOf c)).length (rows (l.filter (notOf c))) ∧ w.grownBy w' (Value.slice A l.length cap).ownBlock := by
  cases hf : l.findIdx? (isOf c) with
  | none =>
    have hno : ∀ x ∈ l, isOf c x = false := by simpa [List.findIdx?_eq_none_iff] using hf
    have hfl : l.filter (notOf c) = l := by
      rw [List.filter_eq_self]
      intro y hy
      have := hno y hy
      simp [isOf] at this
      simp [notOf, this]
    refine (deletefunc_none base A cap l c B w hrow hc hno).mono ?_
    rintro e w' ⟨rfl, hb⟩
    rw [hfl]
    exact ⟨rfl, ownsRow_same hrow (fun k hk => hb.block k (hrow.lt k hk).2), grown_of_below hb _⟩
  | some k =>
    rw [List.findIdx?_eq_some_iff_getElem] at hf
    obtain ⟨hk, hx, hno⟩ := hf
    obtain ⟨A', cap', hv, hA, _, _⟩ := row_shape hrow
    obtain ⟨rfl, rfl⟩ : A = A' ∧ cap = cap' := by simpa using hv
    obtain ⟨g, rfl⟩ := hA (by omega)
    exact deletefunc_some base g cap l c B k l[k] w hrow hc (hB g rfl) (by simp) hx (fun j y hj hy => by
      have := hno j hj
      have he := (List.getElem?_eq_some_iff.1 hy).2
      rw [he] at this
      simpa using this)

set_option maxHeartbeats 2000000 in
set_option maxRecDepth 100000 in
theorem clear_any (base b : Nat) (v : Value) (l : List G) (c : Int) (w : World) (hN : NetAt base w b v l) :
    Calls Try.prog 14 #[.pointer (some ⟨b, 0, none⟩), .int .i64 c] w (ClearPost base w b v l c) := by
  obtain ⟨A, cap, rfl, hA, hcap, hmax⟩ := row_shape hN.row
  unfold maxLen at hmax
  have hle : (l.filter (notOf c)).length ≤ l.length := List.length_filter_le _ _
  have hB0 : ∀ o, Below w.heap.size w (w.alloc o) := fun o => (Below.refl _ _).alloc (Nat.le_refl _) _
  have hN0 : ∀ o, NetAt base (w.alloc o) b (.slice A l.length cap) l := fun o => hN.same ((hB0 o).block b hN.lt) (fun k hk => (hB0 o).block k (hN.row.lt k hk).2)
  have hcell := hN.cell
  have hbl := hN.lt
  have hd := deletefunc_any base A cap l c w.heap.size (w.alloc (.cells #[.int .i64 c] 3)) (hN0 _).row (Boxed.new w 3 (.int .i64 c)).cell (fun g hg => by subst hg; have := (hN.row.lt g rfl).2; omega)
  have HN := Lib.hid hN
  have HN0 := Lib.hid hN0
  have HB0 := Lib.hid hB0
  clear hN hN0 hB0
  go_enter Try.func14, Try.ntmps14
  go_wp2_with fail
  refine hd.mono ?_
  rintro e w2 ⟨rfl, hrow, hg⟩
  have hne : some b ≠ (Value.slice A l.length cap).ownBlock := (show Boxed _ b 53 _ from (HN0.out (.cells #[.int .i64 c] 3)).box).not_row (by decide) (HN0.out (.cells #[.int .i64 c] 3)).row
  have hbx : Boxed w2 b 53 (.slice A l.length cap) := (show Boxed (w.alloc (.cells #[.int .i64 c] 3)) b 53 (.slice A l.length cap) from (HN0.out _).box).kept hg hne
  have hc2 := hbx.cell
  have hf2 := hbx.frozen
  have HR := Lib.hid hrow
  have HG := Lib.hid hg
  clear hrow hg hd
  go_wp2
  go_ret
  refine ⟨congrArg (fun z => Ending.returned (Value.int .i64 z)) ?_, ?_⟩
  · rfl
  · have hB1 := HB0.out (.cells #[.int .i64 c] 3)
    have hgg := HG.out
    refine ⟨.slice A (l.filter (notOf c)).length cap, ⟨HN.out.le, hbx.set _, ?_⟩, ⟨?_, ?_, ?_, ?_, ?_⟩, .inl (by cases A <;> rfl)⟩
    · refine HR.out.kept (grownBy_setCell' w2 b _) (.inr ?_)
      intro h
      refine hne ?_
      rw [← h]
      cases A <;> rfl
    · exact hgg.os.trans hB1.os
    · exact hgg.tape.trans hB1.tape
    · exact hgg.output.trans hB1.output
    · exact Nat.le_trans hB1.size (Nat.le_trans hgg.size (by simp [World.setCell]))
    · intro k hk hkb hkv
      rw [Below.heap_setCell _ _ _ _ hkb, hgg.block k (Nat.lt_of_lt_of_le hk hB1.size) (fun e => hkv e.symm), hB1.block k hk]

/-! ### The nil net -/
theorem pull_nil (i : Int) (w : World) : Calls Try.prog 23 #[.pointer none, .int .i64 i] w fun e w' => e = .returned (.tuple #[.agg #[.int .i64 0, .bool false, .int .i64 0, .int .i64 0, .int .i64 0, .string ByteArray.empty], .bool false]) ∧ Below w.heap.size w w' := by
  go_enter Try.func23, Try.ntmps23
  go_wp2
  refine bodyPost_ret (v := .tuple #[.agg #[.int .i64 0, .bool false, .int .i64 0, .int .i64 0, .int .i64 0, .string ByteArray.empty], .bool false]) (by simp [results, Try.results23, go_sem]; rfl) rfl ⟨rfl, ?_⟩
  exact (Below.refl _ _).alloc (Nat.le_refl _) _

set_option maxHeartbeats 1000000 in
theorem eldest_nil (w : World) : Calls Try.prog 10 #[.pointer none] w fun e w' => e = .returned (.tuple #[.agg #[.int .i64 0, .bool false, .int .i64 0, .int .i64 0, .int .i64 0, .string ByteArray.empty], .bool false]) ∧ Below w.heap.size w w' := by
  go_enter Try.func10, Try.ntmps10
  go_wp2_with fail
  refine (pull_nil 0 _).mono ?_
  rintro e w2 ⟨rfl, hb⟩
  have d4 := (hb.block w.heap.size (by simp)).trans (World.alloc_heap_new w _)
  have e0 := cell_of_row w2 _ 0 _ _ _ d4
  have e1 := cell_of_row w2 _ 1 _ _ _ d4
  have e2 := cell_of_row w2 _ 2 _ _ _ d4
  have e3 := cell_of_row w2 _ 3 _ _ _ d4
  have e4 := cell_of_row w2 _ 4 _ _ _ d4
  have e5 := cell_of_row w2 _ 5 _ _ _ d4
  have f0 : ∀ o, w2.frozen? ⟨w.heap.size, o, none⟩ = false := fun o => frozen_at d4
  have hB : Below w.heap.size w w2 := ((Below.refl _ w).alloc (Nat.le_refl _) _).trans (hb.mono (by simp))
  have HB := Lib.hid hB
  clear hb hB d4
  go_wp2
  refine bodyPost_ret (v := .tuple #[.agg #[.int .i64 0, .bool false, .int .i64 0, .int .i64 0, .int .i64 0, .string ByteArray.empty], .bool false]) (by simp [results, Try.results10, go_sem, e0, e1, e2, e3, e4, e5]) rfl ⟨rfl, ?_⟩
  exact (((((HB.out.setCell (p := ⟨w.heap.size, 0, none⟩) (Nat.le_refl _) _).setCell (p := ⟨w.heap.size, 1, none⟩) (Nat.le_refl _) _).setCell (p := ⟨w.heap.size, 2, none⟩) (Nat.le_refl _) _).setCell (p := ⟨w.heap.size, 3, none⟩) (Nat.le_refl _) _).setCell (p := ⟨w.heap.size, 4, none⟩) (Nat.le_refl _) _).setCell (p := ⟨w.heap.size, 5, none⟩) (Nat.le_refl _) _

theorem put_nil (x : G) (w : World) : Calls Try.prog 9 #[.pointer none, .agg #[.int .i64 x.c, .bool x.u, .int .i64 x.e, .int .i64 x.s, .int .i64 x.a, .string x.b]] w fun e w' => e = .returned (.int .i64 2) ∧ Below w.heap.size w w' := by
  go_enter Try.func9, Try.ntmps9
  go_wp2
  go_ret
  exact ⟨rfl, (Below.refl _ _).alloc (Nat.le_refl _) _⟩

theorem copy_nil (c : Int) (u : Bool) (t : Int) (w : World) (ht0 : -9223372036854775808 ≤ t) (ht1 : t ≤ 9223372036854775807) :
    Calls Try.prog 15 #[.pointer none, .int .i64 c, .bool u, .int .i64 t] w fun e w' => e = .returned (.bool false) ∧ Below w.heap.size w w' := by
  have hp := place_nil c u t w ht0 ht1
  go_enter Try.func15, Try.ntmps15
  go_wp2_with (go_at_call 24; refine hp.mono ?_; rintro e w2 ⟨rfl, hb⟩)
  go_ret
  exact ⟨rfl, hb⟩
end Go.Proofs.Ytgfklingekiflaa
