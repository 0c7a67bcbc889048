/- The walks of mist.Put, slices.Delete and pull: what they come to, in plain words. -/
import Derived.Deep.RegionLaw
import Derived.Deep.AppendLies
import Derived.Laws.OwnMore
import Derived.Test.YtgfklingekiflaaWay
namespace Go.Proofs.Ytgfklingekiflaa
set_option linter.unusedSimpArgs false
open Go.RowKit Go.Shelf

def putCode (l : List G) (g : G) : Int := if g.c < 1 ∨ 8 < g.c then 1 else if 64 ≤ cnt l g.c g.u then 11 else 0
def putList (l : List G) (g : G) : List G := if putCode l g = 0 then l ++ [g] else l

/-- The world is as it was but for the blocks b and v's row, and new ones. -/
structure Touch (b : Nat) (v : Value) (w w' : World) : Prop where
  os : w'.os = w.os
  tape : w'.tape = w.tape
  output : w'.output = w.output
  size : w.heap.size ≤ w'.heap.size
  block : ∀ k, k < w.heap.size → k ≠ b → v.ownBlock ≠ some k → w'.heap[k]? = w.heap[k]?

theorem Touch.of_below {b : Nat} {v : Value} {w w' : World} (h : Below w.heap.size w w') : Touch b v w w' := ⟨h.os, h.tape, h.output, h.size, fun k hk _ _ => h.block k hk⟩

def Fresh (w : World) (v v' : Value) : Prop := v'.ownBlock = v.ownBlock ∨ ∀ k, v'.ownBlock = some k → w.heap.size ≤ k

def NetPost (base : Nat) (w : World) (b : Nat) (v : Value) (l' : List G) (w' : World) : Prop := ∃ v', NetAt base w' b v' l' ∧ Touch b v w w' ∧ Fresh w v v'
def PutPost (base : Nat) (w : World) (b : Nat) (v : Value) (l : List G) (g : G) (e : Ending) (w' : World) : Prop := e = .returned (.int .i64 (putCode l g)) ∧ NetPost base w b v (putList l g) w'

theorem NetPost.of_below {base : Nat} {w w' : World} {b : Nat} {v : Value} {l : List G} (hN : NetAt base w b v l) (h : Below w.heap.size w w') : NetPost base w b v l w' :=
  ⟨v, hN.same (h.block _ hN.lt) (fun k hk => h.block k (hN.row.lt k hk).2), Touch.of_below h, .inl rfl⟩

theorem put_close {base : Nat} {w w1 W' w2 : World} {b g2 cap2 n : Nat} {v : Value} {l : List G} {g : G} (hN : NetAt base w b v l) (HW1 : Below w.heap.size w w1) (HX1 : Below w1.heap.size w1 W')
    (hbx : Boxed w2 b 53 v) (HG : W'.grownBy w2 v.ownBlock) (hat : v.ownBlock = some g2 ∨ g2 = W'.heap.size) (HW : w2.ownsRow base 27 6 (.slice (some ⟨g2, 0, none⟩) n cap2) n (rows l ++ rows [g])) (hn : n = l.length + 1) :
    NetPost base w b v (l ++ [g]) (w2.setCell ⟨b, 0, none⟩ (.slice (some ⟨g2, 0, none⟩) n cap2)) := by
  subst hn
  have hB : Below w.heap.size w W' := HW1.trans (HX1.mono HW1.size)
  have hne : some b ≠ (Value.slice (some ⟨g2, 0, none⟩) (l.length + 1) cap2).ownBlock := hbx.not_row (by decide) HW
  refine ⟨.slice (some ⟨g2, 0, none⟩) (l.length + 1) cap2, ⟨hN.le, hbx.set _, ?_⟩, ⟨?_, ?_, ?_, ?_, ?_⟩, ?_⟩
  · have h := HW.kept (grownBy_setCell' w2 b (.slice (some ⟨g2, 0, none⟩) (l.length + 1) cap2)) (.inr hne.symm)
    simpa [rows] using h
  · exact (HG.os).trans hB.os
  · exact (HG.tape).trans hB.tape
  · exact (HG.output).trans hB.output
  · exact Nat.le_trans hB.size (Nat.le_trans HG.size (KeepsWalks.setCell w2 _ _).size)
  · intro k hk hkb hkv
    rw [Below.heap_setCell _ _ _ _ hkb, HG.block k (Nat.lt_of_lt_of_le hk hB.size) (fun e => hkv e.symm), hB.block k hk]
  · rcases hat with h | h
    · exact .inl (by rw [h]; rfl)
    · right
      intro k hk
      have : g2 = k := by simpa [Value.ownBlock] using hk
      have := hB.size
      omega

theorem info27 : (Try.prog.info? 27).map (fun i => (i.size, i.bytes)) = some (6, 56) := by kernel_rfl
theorem info27z : (Try.prog.info? 27).bind (fun i => i.zero) = some (.agg #[.int .i64 0, .bool false, .int .i64 0, .int .i64 0, .int .i64 0, .string ByteArray.empty]) := by kernel_rfl
theorem info27all : ∃ i, Try.prog.info? 27 = some i ∧ i.zero = some (.agg #[.int .i64 0, .bool false, .int .i64 0, .int .i64 0, .int .i64 0, .string ByteArray.empty]) ∧ i.size = 6 ∧ i.bytes = 56 := by
  have h := info27
  have hz := info27z
  cases hi : Try.prog.info? 27 with
  | none => rw [hi] at h; cases h
  | some i => rw [hi] at h hz; simp at h hz; exact ⟨i, rfl, hz, h.1, h.2⟩

set_option maxHeartbeats 1000000 in
set_option maxRecDepth 100000 in
theorem put_any (base b : Nat) (v : Value) (l : List G) (g : G) (w : World) (hN : NetAt base w b v l) (hl : l.length ≤ 1000000) :
    Calls Try.prog 9 #[.pointer (some ⟨b, 0, none⟩), .agg #[.int .i64 g.c, .bool g.u, .int .i64 g.e, .int .i64 g.s, .int .i64 g.a, .string g.b]] w (PutPost base w b v l g) := by
  by_cases h1 : g.c < 1
  · have hp : putCode l g = 1 := by simp [putCode, h1]
    have hq : putList l g = l := by simp [putList, hp]
    have H := Lib.hid hp
    have H2 := Lib.hid hq
    clear hp hq
    go_enter Try.func9, Try.ntmps9
    go_wp2
    go_ret
    refine ⟨congrArg (fun z => Ending.returned (Value.int .i64 z)) H.out.symm, ?_⟩
    rw [H2.out]
    exact NetPost.of_below hN ((Below.refl _ _).alloc (Nat.le_refl _) _)
  by_cases h8 : 8 < g.c
  · have hp : putCode l g = 1 := by simp [putCode, h8]
    have hq : putList l g = l := by simp [putList, hp]
    have H := Lib.hid hp
    have H2 := Lib.hid hq
    clear hp hq
    go_enter Try.func9, Try.ntmps9
    go_wp2
    go_ret
    refine ⟨congrArg (fun z => Ending.returned (Value.int .i64 z)) H.out.symm, ?_⟩
    rw [H2.out]
    exact NetPost.of_below hN ((Below.refl _ _).alloc (Nat.le_refl _) _)
  have hB1 : Below w.heap.size w (w.alloc (.cells #[.int .i64 g.c, .bool g.u, .int .i64 g.e, .int .i64 g.s, .int .i64 g.a, .string g.b] 27)) := (Below.refl _ _).alloc (Nat.le_refl _) _
  have hN1 := hN.same (hB1.block _ hN.lt) (fun k hk => hB1.block k (hN.row.lt k hk).2)
  have hcnt := fun c u => count_any base b v l c u _ hN1 hl
  have hcl := cnt_le l g.c g.u
  by_cases h64 : 64 ≤ cnt l g.c g.u
  · have hp : putCode l g = 11 := by simp [putCode, h1, h8, h64]
    have hq : putList l g = l := by simp [putList, hp]
    have H := Lib.hid hp
    have H2 := Lib.hid hq
    clear hp hq
    go_enter Try.func9, Try.ntmps9
    go_wp2_with (go_at_call 13; refine (hcnt _ _).mono ?_; rintro e w1 ⟨rfl, hb1⟩)
    go_ret
    refine ⟨congrArg (fun z => Ending.returned (Value.int .i64 z)) H.out.symm, ?_⟩
    rw [H2.out]
    exact NetPost.of_below hN (hB1.trans (hb1.mono (by simp)))
  · have hp : putCode l g = 0 := by simp [putCode, h1, h8, h64]
    have hq : putList l g = l ++ [g] := by simp [putList, hp]
    have H := Lib.hid hp
    have H2 := Lib.hid hq
    clear hp hq
    obtain ⟨i0, hi, hz0, hz1, hz2⟩ := info27all
    go_enter Try.func9, Try.ntmps9
    go_wp2_with (go_at_call 13; refine (hcnt _ _).mono ?_; rintro e w1 ⟨rfl, hb1⟩)
    have hW1 : Below w.heap.size w w1 := hB1.trans (hb1.mono (by simp))
    have hN2 := hN1.same (hb1.block _ hN1.lt) (fun k hk => hb1.block k (hN1.row.lt k hk).2)
    have hcb := hN2.cell
    have hfb := hN2.frozen
    have hlb : b < w1.heap.size := hN2.lt
    have hlw : w.heap.size < w1.heap.size := by have := hb1.size; simp at this; omega
    have pc : ∀ j x, (#[Value.int .i64 g.c, .bool g.u, .int .i64 g.e, .int .i64 g.s, .int .i64 g.a, .string g.b])[j]? = some x → w1.cell? ⟨w.heap.size, j, none⟩ = some x := fun j x hx => by
      rw [hb1.cell (p := ⟨w.heap.size, j, none⟩) (by simp)]
      rw [cell_of_row _ w.heap.size j _ 27 (0, 0) (World.alloc_heap_new w _)]; exact hx
    have p0 := pc 0 _ rfl
    have p1 := pc 1 _ rfl
    have p2 := pc 2 _ rfl
    have p3 := pc 3 _ rfl
    have p4 := pc 4 _ rfl
    have p5 := pc 5 _ rfl
    have hbase : base ≤ w1.heap.size := Nat.le_trans hN2.le (Nat.le_of_lt hlb)
    have HN2 := Lib.hid hN2
    have HW1 := Lib.hid hW1
    clear pc hW1 hB1 hb1 hN1 hcnt
    have HO : Hid (∀ W, Below w1.heap.size w1 W → W.ownsRow base 27 6 v l.length (rows l)) := fun W hW => ownsRow_same hN2.row (fun k hk => hW.block k (hN2.row.lt k hk).2)
    have hbx : Hid (∀ W, Below w1.heap.size w1 W → Boxed W b 53 v) := fun W hW => (hW.block _ hN2.lt).trans hN2.box
    clear hN2
    obtain ⟨X, hX⟩ : ∃ X, X = Obj.cells #[Value.int .i64 g.c, .bool g.u, .int .i64 g.e, .int .i64 g.s, .int .i64 g.a, .string g.b] 27 (0, 0) := ⟨_, rfl⟩
    have HX1 : Hid (Below w1.heap.size w1 ((w1.alloc (Obj.cells #[Value.int .i64 g.c, .bool g.u, .int .i64 g.e, .int .i64 g.s, .int .i64 g.a, .string g.b] 27)).drew)) := ((Below.refl _ _).alloc (Nat.le_refl _) _).drew
    have HX2 : Hid (∀ j u, (rows [g])[j]? = some u → ((w1.alloc (Obj.cells #[Value.int .i64 g.c, .bool g.u, .int .i64 g.e, .int .i64 g.s, .int .i64 g.a, .string g.b] 27)).drew).cell? ((⟨w1.heap.size, 0, none⟩ : Addr).add j) = some u) := fun j u hu => by
      have ha : (⟨w1.heap.size, 0, none⟩ : Addr).add j = ⟨w1.heap.size, j, none⟩ := by unfold Addr.add; split <;> simp_all
      rw [ha]
      show (w1.alloc _).cell? _ = _
      rw [cell_of_row _ w1.heap.size j _ 27 (0, 0) (World.alloc_heap_new w1 _)]
      simpa [rows, G.cells] using hu
    have HX3 : Hid (∀ u ∈ rows [g], u.oneCell' = true) := fun u hu => by simp [rows, G.cells] at hu; rcases hu with rfl | rfl | rfl | rfl | rfl | rfl <;> rfl
    have HX4 : Hid (l.length + 1 ≤ maxLen) := by show _ ≤ _; unfold maxLen; omega
    have HX5 : Hid ((l.length + 1) * 56 ≤ 140737488355328) := by show _ ≤ _; omega
    have HX6 : Hid (base ≤ ((w1.alloc (Obj.cells #[Value.int .i64 g.c, .bool g.u, .int .i64 g.e, .int .i64 g.s, .int .i64 g.a, .string g.b] 27)).drew).heap.size) := by show base ≤ (w1.alloc _).heap.size; simp; omega
    clear hX X
    go_region_law (refine step_append_lies _ rfl (.tmp 29) (.tmp 31) 22 rfl base 27 i0 _ 6 56 Try.underlying22 hi hz0 hz1 hz2 rfl (by decide) v l.length (rows l) (by simp [Act.eval]) (HO.out _ HX1.out) ⟨w1.heap.size, 0, none⟩ 1 1 (rows [g]) (by simp [Act.eval]) rfl HX2.out HX3.out (by decide) HX4.out HX5.out HX6.out _ rfl ?_; intro g2 cap2 w2 hown2 hgrow2 hat2 hlt2; have hbx2 := (hbx.out _ HX1.out).kept hgrow2 ((hbx.out _ HX1.out).not_row (by decide) (HO.out _ HX1.out)); have hc2 := hbx2.cell; have hf2 := hbx2.frozen; have HG := Lib.hid hgrow2; have HW := Lib.hid hown2; have HA := Lib.hid hat2; clear hgrow2 hown2 hat2 hlt2)
    all_goals go_wp2
    all_goals go_ret
    all_goals
      refine ⟨congrArg (fun z => Ending.returned (Value.int .i64 z)) H.out.symm, ?_⟩
      rw [H2.out]
      exact put_close hN HW1.out HX1.out hbx2 HG.out HA.out HW.out rfl

/-! ### slices.Delete of one element -/
theorem heap_setCells_ne (b : Nat) : ∀ (vs : List Value) (o : Nat) (w : World) (k : Nat), k ≠ b → (w.setCells b o vs).heap[k]? = w.heap[k]?
  | [], _, _, _, _ => rfl
  | v :: r, o, w, k, h => by
    simp only [World.setCells]
    rw [heap_setCells_ne b r (o + 1) _ k h, Below.heap_setCell _ _ _ _ h]

theorem heap_setCell_at {w : World} {b o : Nat} {cur : Array Value} {t : TypeId} {fr : Nat × Nat} (h : w.heap[b]? = some (.cells cur t fr)) (v : Value) : (w.setCell ⟨b, o, none⟩ v).heap[b]? = some (.cells (cur.setIfInBounds o v) t fr) := by
  rw [setCell_eq_setRow w b o cur t fr v h]; exact setRow_heap w b cur _ t fr h

theorem heap_setCells (b : Nat) : ∀ (vs : List Value) (o : Nat) (w : World) (cur : Array Value) (t : TypeId) (fr : Nat × Nat), w.heap[b]? = some (.cells cur t fr) → o + vs.length ≤ cur.size →
    ∃ cur' : Array Value, (w.setCells b o vs).heap[b]? = some (.cells cur' t fr) ∧ cur'.toList = cur.toList.take o ++ vs ++ cur.toList.drop (o + vs.length)
  | [], o, w, cur, t, fr, h, _ => ⟨cur, h, by simp⟩
  | v :: r, o, w, cur, t, fr, h, hl => by
    obtain ⟨cur', h1, h2⟩ := heap_setCells b r (o + 1) (w.setCell ⟨b, o, none⟩ v) (cur.setIfInBounds o v) t fr (heap_setCell_at h v) (by simp at hl ⊢; omega)
    refine ⟨cur', h1, ?_⟩
    rw [h2, Array.toList_setIfInBounds]
    have e := list_seg_step cur.toList o v r (by simp at hl ⊢; omega)
    simpa [Nat.add_assoc] using e

theorem setCells_size (b : Nat) (vs : List Value) (o : Nat) (w : World) : (w.setCells b o vs).heap.size = w.heap.size := by
  induction vs generalizing o w with
  | nil => rfl
  | cons v r ih => simp only [World.setCells, ih]; simp [World.setCell]

theorem setCells_grown (b : Nat) (vs : List Value) (o : Nat) (w : World) : w.grownBy (w.setCells b o vs) (some b) := by
  induction vs generalizing o w with
  | nil => exact ⟨rfl, rfl, rfl, Nat.le_refl _, fun _ _ _ => rfl⟩
  | cons v r ih =>
    have h := ih (o + 1) (w.setCell ⟨b, o, none⟩ v)
    simp only [World.setCells]
    exact ⟨h.os, h.tape, h.output, by rw [setCells_size]; simp [World.setCell], fun k _ hk => heap_setCells_ne b (v :: r) o w k (fun e => hk (by rw [e]))⟩

theorem grownBy_trans {a b c : World} {row : Option Nat} (h : a.grownBy b row) (k : b.grownBy c row) : a.grownBy c row :=
  ⟨k.os.trans h.os, k.tape.trans h.tape, k.output.trans h.output, Nat.le_trans h.size k.size, fun i hi hne => (k.block i (Nat.lt_of_lt_of_le hi h.size) hne).trans (h.block i hi hne)⟩
theorem grownBy_drew (w : World) (row : Option Nat) : w.grownBy w.drew row := ⟨rfl, rfl, rfl, Nat.le_refl _, fun _ _ _ => rfl⟩

theorem frozen_at {w : World} {b o : Nat} {cur : Array Value} {t : TypeId} (h : w.heap[b]? = some (.cells cur t (0, 0))) : w.frozen? ⟨b, o, none⟩ = false := by simp [World.frozen?, h]

/-- 'clear(s)' at elements of several cells. -/
theorem run_clear_cells {P : Program} (w : World) (t e ty : TypeId) (z : Value) (ht : P.underlying t = some (.slice e)) (hv : ∀ w, (zeroValue e).run P w = .ok z w) (b o n c : Nat) (vs : List Value) (hn : 0 < n)
    (hvs : (Builtin.zeroCells z.cells n).toList = vs) (h1 : ∀ v ∈ vs, v.oneCell' = true) (hc : ∀ j, j < vs.length → (w.cell? ⟨b, o + j, none⟩).isSome = true) (hf : ∀ j, j < vs.length → w.frozen? ⟨b, o + j, none⟩ = false) :
    (Builtin.clear_ #[t] ty #[.slice (some ⟨b, o, none⟩) n c]).run P w = .ok (.tuple #[]) (w.setCells b o vs) := by
  have hst := run_storeCells_cells (P := P) b o vs 0 w (by simpa using hc) (by simpa using hf) h1
  simp only [Nat.add_zero] at hst
  obtain ⟨m, rfl⟩ : ∃ m, n = m + 1 := ⟨n - 1, by omega⟩
  simp [Builtin.clear_, run_underlying ht, hv, hvs, hst]

def zero6 : List Value := [.int .i64 0, .bool false, .int .i64 0, .int .i64 0, .int .i64 0, .string ByteArray.empty]
theorem zeroValue27 : ∀ w : World, (zeroValue 27).run Try.prog w = .ok (.agg #[.int .i64 0, .bool false, .int .i64 0, .int .i64 0, .int .i64 0, .string ByteArray.empty]) w := fun w => by
  obtain ⟨i, hi, hz, _⟩ := info27all
  simp [zeroValue, typeInfo, hi, hz]
theorem zero6_cells : (Builtin.zeroCells (Value.cells (.agg #[.int .i64 0, .bool false, .int .i64 0, .int .i64 0, .int .i64 0, .string ByteArray.empty])) 1).toList = zero6 := by
  simp [Builtin.zeroCells, Value.cells, zero6]
  rfl

theorem rows_append (l m : List G) : rows (l ++ m) = rows l ++ rows m := by simp [rows]
theorem rows_one (l : List G) : ∀ v ∈ rows l, v.oneCell' = true := by
  intro v hv
  simp only [rows, List.mem_flatMap, G.cells] at hv
  obtain ⟨g, _, h⟩ := hv
  simp at h
  rcases h with rfl | rfl | rfl | rfl | rfl | rfl <;> rfl
theorem rows_take (l : List G) (i : Nat) : (rows l).take (i * 6) = rows (l.take i) := by
  rcases Nat.lt_or_ge i l.length with h | h
  · conv => lhs; rw [← List.take_append_drop i l, rows_append]
    rw [List.take_append_of_le_length (by rw [rows_length]; simp; omega)]
    exact List.take_of_length_le (by rw [rows_length]; simp; omega)
  · rw [List.take_of_length_le h, List.take_of_length_le (by rw [rows_length]; omega)]
theorem rows_drop (l : List G) (i : Nat) : (rows l).drop (i * 6) = rows (l.drop i) := by
  rcases Nat.lt_or_ge i l.length with h | h
  · conv => lhs; rw [← List.take_append_drop i l, rows_append]
    rw [List.drop_append]
    have : (rows (l.take i)).length = i * 6 := by rw [rows_length]; simp; omega
    rw [this, Nat.sub_self, List.drop_of_length_le (by omega)]
    simp
  · rw [List.drop_of_length_le h, List.drop_of_length_le (by rw [rows_length]; omega)]; rfl

set_option maxHeartbeats 1000000 in
set_option maxRecDepth 100000 in
theorem delete_any (base g cap i : Nat) (l : List G) (w : World) (hrow : w.ownsRow base 27 6 (.slice (some ⟨g, 0, none⟩) l.length cap) l.length (rows l)) (hi : i < l.length) :
    Calls Try.prog 33 #[.slice (some ⟨g, 0, none⟩) l.length cap, .int .i64 (i : Int), .int .i64 ((i : Int) + 1)] w fun e w' => e = .returned (.slice (some ⟨g, 0, none⟩) (l.length - 1) cap) ∧
      w'.ownsRow base 27 6 (.slice (some ⟨g, 0, none⟩) (l.length - 1) cap) (l.length - 1) (rows (l.eraseIdx i)) ∧ w.grownBy w' (some g) := by
  obtain ⟨i0, hi0, hz0, hz1, hz2⟩ := info27all
  rcases hrow.2 with ⟨h, _⟩ | ⟨g', cap', cur, hv, hbg, hgh, hnc, hcm, hcs, htk⟩
  · cases h
  obtain ⟨rfl, rfl⟩ : g = g' ∧ cap = cap' := by simpa using hv
  unfold maxLen at hcm
  have hw0 := (grownBy_drew w (some g))
  have hd : w.drew.heap[g]? = some (.cells cur 27 (0, 0)) := hgh
  -- what is moved
  have hmv : (rows (l.drop (i + 1))).length = (l.length - (i + 1)) * 6 := by rw [rows_length]; simp
  obtain ⟨cur1, h1, e1⟩ := heap_setCells g (rows (l.drop (i + 1))) (i * 6) w.drew cur 27 (0, 0) hd (by rw [hmv, hcs]; omega)
  have hcur : cur.toList = rows l ++ cur.toList.drop (l.length * 6) := by rw [← htk]; simp
  have e1' : cur1.toList = rows (l.eraseIdx i) ++ (cur.toList.drop (i * 6 + (l.length - (i + 1)) * 6)) := by
    rw [e1, hmv]
    congr 1
    have : cur.toList.take (i * 6) = rows (l.take i) := by rw [hcur, List.take_append_of_le_length (by rw [rows_length]; omega), rows_take]
    rw [this, ← rows_append, List.eraseIdx_eq_take_drop_succ]
  have hs1 : cur1.size = cap * 6 := by
    have := congrArg List.length e1
    simp only [List.length_append, List.length_take, List.length_drop, Array.length_toList, hmv] at this
    omega
  obtain ⟨cur2, h2, e2⟩ := heap_setCells g zero6 ((l.length - 1) * 6) (w.drew.setCells g (i * 6) (rows (l.drop (i + 1)))) cur1 27 (0, 0) h1 (by rw [hs1]; simp [zero6]; omega)
  have hfin : Hid (((w.drew.setCells g (i * 6) (rows (l.drop (i + 1)))).setCells g ((l.length - 1) * 6) zero6).ownsRow base 27 6 (.slice (some ⟨g, 0, none⟩) (l.length - 1) cap) (l.length - 1) (rows (l.eraseIdx i)) ∧
      w.grownBy ((w.drew.setCells g (i * 6) (rows (l.drop (i + 1)))).setCells g ((l.length - 1) * 6) zero6) (some g)) := by
    refine ⟨⟨by rw [rows_length, List.length_eraseIdx_of_lt hi], .inr ⟨g, cap, cur2, rfl, hbg, h2, by omega, by unfold maxLen; omega, ?_, ?_⟩⟩, grownBy_trans hw0 (grownBy_trans (setCells_grown _ _ _ _) (setCells_grown _ _ _ _))⟩
    · have := congrArg List.length e2
      simp only [List.length_append, List.length_take, List.length_drop, Array.length_toList, zero6, List.length_cons, List.length_nil] at this
      omega
    · rw [e2, List.append_assoc, List.take_append_of_le_length (by simp; omega), List.take_take, Nat.min_self, e1', List.take_append_of_le_length (by rw [rows_length, List.length_eraseIdx_of_lt hi]; omega)]
      exact List.take_of_length_le (by rw [rows_length, List.length_eraseIdx_of_lt hi]; omega)
  have ha : ∀ o j, (⟨g, o, none⟩ : Addr).add j = ⟨g, o + j, none⟩ := fun o j => by rw [Addr.add_lit]
  obtain ⟨A, hA, hsrc⟩ : ∃ A : Addr, (if cap = i + 1 then (some (⟨g, 0, none⟩ : Addr)) else some ⟨g, (i + 1) * 6, none⟩) = some A ∧ Hid (∀ t u, (rows (l.drop (i + 1)))[t]? = some u → w.drew.cell? (A.add t) = some u) := by
    by_cases h : cap = i + 1
    · refine ⟨⟨g, 0, none⟩, by simp [h], fun t u hu => ?_⟩
      have h0 : (rows (l.drop (i + 1))).length = 0 := by rw [hmv]; omega
      rw [List.length_eq_zero_iff.1 h0] at hu
      simp at hu
    · refine ⟨⟨g, (i + 1) * 6, none⟩, by simp [h], fun t u hu => ?_⟩
      have ht : t < (l.length - (i + 1)) * 6 := by
        have := (List.getElem?_eq_some_iff.1 hu).1
        rwa [hmv] at this
      rw [ha, cell_of_row _ g _ cur 27 (0, 0) hd]
      rw [← rows_drop, ← htk, List.getElem?_drop, List.getElem?_take, if_pos (by omega)] at hu
      simpa using hu
  have s2 := Lib.hid (rows_one (l.drop (i + 1)))
  have s1 := Lib.hid hmv
  have s3 : Hid (∀ t, t < (rows (l.drop (i + 1))).length → (w.drew.cell? ⟨g, 0 + i * 6 + t, none⟩).isSome = true ∧ w.drew.frozen? ⟨g, 0 + i * 6 + t, none⟩ = false) := by
    intro t ht
    rw [hmv] at ht
    exact ⟨by rw [cell_of_row _ g _ cur 27 (0, 0) hd]; simp; omega, frozen_at hd⟩
  obtain ⟨W1, hW1⟩ : ∃ W1, W1 = w.drew.setCells g (i * 6) (rows (l.drop (i + 1))) := ⟨_, rfl⟩
  rw [← hW1] at h1 hfin
  have hcl : ∀ ty, (Builtin.clear_ #[22] ty #[.slice (some ⟨g, (l.length - 1) * 6, none⟩) (l.length - (l.length - 1)) (cap - (l.length - 1))]).run Try.prog W1 = .ok (.tuple #[]) (W1.setCells g ((l.length - 1) * 6) zero6) := fun ty => by
    rw [show l.length - (l.length - 1) = 1 by omega]
    exact run_clear_cells W1 22 27 ty _ Try.underlying22 zeroValue27 g _ 1 _ zero6 (by decide) zero6_cells (by decide) (fun j hj => by have hj6 : j < 6 := hj; rw [cell_of_row _ g _ cur1 27 (0, 0) h1, Array.getElem?_eq_getElem (by rw [hs1]; omega)]; rfl) (fun j hj => frozen_at h1)
  have HW := Lib.hid hW1
  have hic : i ≤ cap := by omega
  have hic2 : i + 1 ≤ cap := by omega
  have hlc : l.length ≤ cap := hnc
  have a1 : (0 : Int) ≤ (i : Int) + 1 := by omega
  have a2 : (i : Int) + 1 ≤ (l.length : Int) := by omega
  clear hW1 hgh hd h1 h2 e1 e1' e2 hcur hs1 hmv htk hcs hrow hv hw0
  go_enter Try.func33, Try.ntmps33
  go_wp2_with fail
  go_region_law (refine step_append_room rfl (.tmp 22) (.tmp 25) 22 rfl 27 i0 6 Try.underlying22 hi0 hz1 g 0 i cap (by simp [Act.eval, Act.put]) A (l.length - (i + 1)) (cap - (i + 1)) (rows (l.drop (i + 1))) (by simp [Act.eval, Act.put]) s1.out hsrc.out s2.out (by omega) s3.out ?_; rw [Nat.zero_add, ← HW.out, show i + (l.length - (i + 1)) = l.length - 1 by omega])
  go_wp2
  go_ret
  exact ⟨rfl, hfin.out⟩

/-! ### pull -/
def G.agg (g : G) : Value := .agg #[.int .i64 g.c, .bool g.u, .int .i64 g.e, .int .i64 g.s, .int .i64 g.a, .string g.b]
def G.zero : G := ⟨0, false, 0, 0, 0, ByteArray.empty⟩
def pullG (l : List G) (i : Int) : Option G := if 0 ≤ i then l[i.toNat]? else none
def pullL (l : List G) (i : Int) : List G := if 0 ≤ i then l.eraseIdx i.toNat else l
def PullPost (base : Nat) (w : World) (b : Nat) (v : Value) (l : List G) (i : Int) (e : Ending) (w' : World) : Prop :=
  e = .returned (.tuple #[((pullG l i).getD G.zero).agg, .bool (pullG l i).isSome]) ∧ NetPost base w b v (pullL l i) w'

theorem touch_trans {b : Nat} {v : Value} {w w1 w2 : World} (h : Touch b v w w1) (k : Touch b v w1 w2) : Touch b v w w2 :=
  ⟨k.os.trans h.os, k.tape.trans h.tape, k.output.trans h.output, Nat.le_trans h.size k.size, fun i hi h1 h2 => (k.block i (Nat.lt_of_lt_of_le hi h.size) h1 h2).trans (h.block i hi h1 h2)⟩
theorem touch_setCell {b : Nat} {v : Value} (w : World) (u : Value) : Touch b v w (w.setCell ⟨b, 0, none⟩ u) := ⟨rfl, rfl, rfl, by simp [World.setCell], fun _ _ h _ => Below.heap_setCell _ _ _ _ h⟩
theorem touch_grown {b g : Nat} {n c : Nat} {w w' : World} (h : w.grownBy w' (some g)) : Touch b (.slice (some ⟨g, 0, none⟩) n c) w w' :=
  ⟨h.os, h.tape, h.output, h.size, fun k hk _ hv => h.block k hk (fun e => hv (by rw [e]; rfl))⟩

set_option maxHeartbeats 1000000 in
set_option maxRecDepth 100000 in
theorem pull_none (base b : Nat) (v : Value) (l : List G) (i : Int) (w : World) (hN : NetAt base w b v l) (hi : i < 0 ∨ (l.length : Int) ≤ i) :
    Calls Try.prog 23 #[.pointer (some ⟨b, 0, none⟩), .int .i64 i] w (PullPost base w b v l i) := by
  have hp : pullG l i = none := by
    unfold pullG
    split
    · exact List.getElem?_eq_none (by omega)
    · rfl
  have hq : pullL l i = l := by
    unfold pullL
    split
    · exact List.eraseIdx_of_length_le (by omega)
    · rfl
  have hfin : ∀ W, Below w.heap.size w W → PullPost base w b v l i (.returned (.tuple #[.agg #[.int .i64 0, .bool false, .int .i64 0, .int .i64 0, .int .i64 0, .string ByteArray.empty], .bool false])) W := fun W hW => by
    refine ⟨by rw [hp]; rfl, ?_⟩
    rw [hq]; exact NetPost.of_below hN hW
  have HF := Lib.hid hfin
  clear hp hq hfin
  obtain ⟨A, cap, rfl, hA, hcap, hmax⟩ := row_shape hN.row
  have hcell := hN.cell
  have hbl := hN.lt
  unfold maxLen at hmax
  rcases Int.lt_or_le i 0 with h0 | h0
  · go_enter Try.func23, Try.ntmps23
    go_wp2
    refine bodyPost_ret (v := .tuple #[.agg #[.int .i64 0, .bool false, .int .i64 0, .int .i64 0, .int .i64 0, .string ByteArray.empty], .bool false]) (by simp [results, Try.results23, go_sem]; rfl) rfl (HF.out _ ?_)
    exact ((Below.refl _ _).alloc (Nat.le_refl _) _)
  · have h1 : (l.length : Int) ≤ i := by omega
    go_enter Try.func23, Try.ntmps23
    go_wp2
    refine bodyPost_ret (v := .tuple #[.agg #[.int .i64 0, .bool false, .int .i64 0, .int .i64 0, .int .i64 0, .string ByteArray.empty], .bool false]) (by simp [results, Try.results23, go_sem]; rfl) rfl (HF.out _ ?_)
    exact ((Below.refl _ _).alloc (Nat.le_refl _) _)

theorem pull_close {base : Nat} {w W1 w2 : World} {b g cap k : Nat} {l : List G} {x : G} (hN : NetAt base w b (.slice (some ⟨g, 0, none⟩) l.length cap) l) (hB : Below w.heap.size w W1) (hlt : k < l.length) (hbg : b ≠ g)
    (dn : Boxed w2 b 53 (.slice (some ⟨g, 0, none⟩) l.length cap)) (hg : W1.grownBy w2 (some g)) (hr : w2.ownsRow base 27 6 (.slice (some ⟨g, 0, none⟩) (l.length - 1) cap) (l.length - 1) (rows (l.eraseIdx k))) :
    NetPost base w b (.slice (some ⟨g, 0, none⟩) l.length cap) (l.eraseIdx k) ((w2.setCell ⟨b, 0, none⟩ (.slice (some ⟨g, 0, none⟩) (l.length - 1) cap)).setCells w.heap.size 0 x.cells) := by
  have hbl := hN.lt
  have hgl := (hN.row.lt g rfl).2
  have e : (l.eraseIdx k).length = l.length - 1 := List.length_eraseIdx_of_lt hlt
  refine ⟨.slice (some ⟨g, 0, none⟩) (l.length - 1) cap, ⟨hN.le, ?_, ?_⟩, ?_, .inl rfl⟩
  · rw [heap_setCells_ne _ _ _ _ _ (by omega)]; exact dn.set _
  · rw [e]
    refine ownsRow_same (hr.kept (grownBy_setCell' w2 b (.slice (some ⟨g, 0, none⟩) (l.length - 1) cap)) (.inr (by simpa [Value.ownBlock] using hbg.symm))) fun j hj => ?_
    have : g = j := by simpa [Value.ownBlock] using hj
    exact heap_setCells_ne _ _ _ _ _ (by omega)
  · have h := setCells_grown w.heap.size x.cells 0 (w2.setCell ⟨b, 0, none⟩ (.slice (some ⟨g, 0, none⟩) (l.length - 1) cap))
    refine ⟨h.os.trans (hg.os.trans hB.os), h.tape.trans (hg.tape.trans hB.tape), h.output.trans (hg.output.trans hB.output), Nat.le_trans hB.size (Nat.le_trans hg.size (by rw [setCells_size]; simp [World.setCell])), fun j hj hjb hjv => ?_⟩
    rw [heap_setCells_ne _ _ _ _ _ (by omega), Below.heap_setCell _ _ _ _ hjb, hg.block j (Nat.lt_of_lt_of_le hj hB.size) (fun e => hjv e.symm), hB.block j hj]

set_option maxHeartbeats 1000000 in
set_option maxRecDepth 100000 in
theorem pull_some (base b : Nat) (v : Value) (l : List G) (k : Nat) (x : G) (w : World) (hN : NetAt base w b v l) (hk : l[k]? = some x) :
    Calls Try.prog 23 #[.pointer (some ⟨b, 0, none⟩), .int .i64 (k : Int)] w (PullPost base w b v l k) := by
  have hlt : k < l.length := (List.getElem?_eq_some_iff.1 hk).1
  obtain ⟨A, cap, rfl, hA, hcap, hmax⟩ := row_shape hN.row
  obtain ⟨g, rfl⟩ := hA (by omega)
  have hcell := hN.cell
  have hbl := hN.lt
  have hgl := (hN.row.lt g rfl).2
  obtain ⟨c0, c1, c2, c3, c4, c5⟩ := row_cells hN.row hk
  unfold maxLen at hmax
  have hd : ∀ W, Below w.heap.size w W → Calls Try.prog 33 #[.slice (some ⟨g, 0, none⟩) l.length cap, .int .i64 (k : Int), .int .i64 ((k : Int) + 1)] W _ := fun W hW => delete_any base g cap k l W (ownsRow_same hN.row (fun j hj => hW.block j (hN.row.lt j hj).2)) hlt
  go_enter Try.func23, Try.ntmps23
  go_wp2_with fail
  have hB : Below w.heap.size w ((w.alloc (Obj.cells #[Value.int .i64 0, .bool false, .int .i64 0, .int .i64 0, .int .i64 0, .string ⟨#[]⟩] 27)).alloc (Obj.cells #[Value.int .i64 x.c, .bool x.u, .int .i64 x.e, .int .i64 x.s, .int .i64 x.a, .string x.b] 27)) :=
    ((Below.refl _ _).alloc (Nat.le_refl _) _).alloc (by simp) _
  refine (hd _ hB).mono ?_
  have b4 : ((w.alloc (Obj.cells #[Value.int .i64 0, .bool false, .int .i64 0, .int .i64 0, .int .i64 0, .string ⟨#[]⟩] 27)).alloc (Obj.cells #[Value.int .i64 x.c, .bool x.u, .int .i64 x.e, .int .i64 x.s, .int .i64 x.a, .string x.b] 27)).heap[w.heap.size]? = some (Obj.cells #[Value.int .i64 0, .bool false, .int .i64 0, .int .i64 0, .int .i64 0, .string ⟨#[]⟩] 27) := by
    rw [Below.heap_alloc _ _ _ (by simp)]; exact World.alloc_heap_new w _
  have b6 : ((w.alloc (Obj.cells #[Value.int .i64 0, .bool false, .int .i64 0, .int .i64 0, .int .i64 0, .string ⟨#[]⟩] 27)).alloc (Obj.cells #[Value.int .i64 x.c, .bool x.u, .int .i64 x.e, .int .i64 x.s, .int .i64 x.a, .string x.b] 27)).heap[w.heap.size + 1]? = some (Obj.cells #[Value.int .i64 x.c, .bool x.u, .int .i64 x.e, .int .i64 x.s, .int .i64 x.a, .string x.b] 27) := by
    have := World.alloc_heap_new (w.alloc (Obj.cells #[Value.int .i64 0, .bool false, .int .i64 0, .int .i64 0, .int .i64 0, .string ⟨#[]⟩] 27)) (Obj.cells #[Value.int .i64 x.c, .bool x.u, .int .i64 x.e, .int .i64 x.s, .int .i64 x.a, .string x.b] 27)
    simpa using this
  have hsz : ((w.alloc (Obj.cells #[Value.int .i64 0, .bool false, .int .i64 0, .int .i64 0, .int .i64 0, .string ⟨#[]⟩] 27)).alloc (Obj.cells #[Value.int .i64 x.c, .bool x.u, .int .i64 x.e, .int .i64 x.s, .int .i64 x.a, .string x.b] 27)).heap.size = w.heap.size + 2 := by simp
  generalize ((w.alloc (Obj.cells #[Value.int .i64 0, .bool false, .int .i64 0, .int .i64 0, .int .i64 0, .string ⟨#[]⟩] 27)).alloc (Obj.cells #[Value.int .i64 x.c, .bool x.u, .int .i64 x.e, .int .i64 x.s, .int .i64 x.a, .string x.b] 27)) = W1 at *
  rintro e w2 ⟨rfl, hrow2, hg2⟩
  have d4 := (hg2.block w.heap.size (by omega) (by simp; omega)).trans b4
  have d6 := (hg2.block (w.heap.size + 1) (by omega) (by simp; omega)).trans b6
  have hbg : b ≠ g := by
    intro e; subst e
    rcases hN.row.2 with ⟨h, _⟩ | ⟨g', cap', cur, hv, _, hgh, _⟩
    · cases h
    · obtain ⟨rfl, rfl⟩ : b = g' ∧ cap = cap' := by simpa using hv
      have := hN.box.symm.trans hgh
      simp at this
  have dn : Boxed w2 b 53 (.slice (some ⟨g, 0, none⟩) l.length cap) := ((hg2.block b (by have := hB.size; omega) (by simp; omega)).trans (hB.block b hbl)).trans hN.box
  have hb2 := dn.cell
  have hf2 := dn.frozen
  have hl2 : w.heap.size + 2 ≤ w2.heap.size := by have := hg2.size; omega
  have e0 := cell_of_row w2 _ 0 _ _ _ d4
  have e1 := cell_of_row w2 _ 1 _ _ _ d4
  have e2 := cell_of_row w2 _ 2 _ _ _ d4
  have e3 := cell_of_row w2 _ 3 _ _ _ d4
  have e4 := cell_of_row w2 _ 4 _ _ _ d4
  have e5 := cell_of_row w2 _ 5 _ _ _ d4
  have f0 : ∀ o, w2.frozen? ⟨w.heap.size, o, none⟩ = false := fun o => frozen_at d4
  have g0 := cell_of_row w2 _ 0 _ _ _ d6
  have g1 := cell_of_row w2 _ 1 _ _ _ d6
  have g2 := cell_of_row w2 _ 2 _ _ _ d6
  have g3 := cell_of_row w2 _ 3 _ _ _ d6
  have g4 := cell_of_row w2 _ 4 _ _ _ d6
  have g5 := cell_of_row w2 _ 5 _ _ _ d6
  have D4 := Lib.hid d4
  have HG2 := Lib.hid hg2
  have HR2 := Lib.hid hrow2
  clear d4 d6 b4 b6 hg2 hrow2 hd hcell c0 c1 c2 c3 c4 c5 hsz
  go_wp2
  refine bodyPost_ret (v := .tuple #[x.agg, .bool true]) (by simp [results, Try.results23, go_sem, G.agg, e0, e1, e2, e3, e4, e5]) rfl ⟨?_, ?_⟩
  · have : pullG l (k : Int) = some x := by simp [pullG, hk]
    rw [this]; rfl
  · have hq : pullL l (k : Int) = l.eraseIdx k := by simp [pullL]
    rw [hq]
    exact pull_close hN hB hlt hbg dn HG2.out HR2.out
end Go.Proofs.Ytgfklingekiflaa
