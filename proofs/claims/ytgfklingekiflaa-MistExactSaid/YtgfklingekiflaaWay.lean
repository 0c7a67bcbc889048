/- The walks of mist.way, Count and place: what they come to, in plain words. -/
import Derived.RangeFuncNested
import Derived.RangeFuncBound
import Derived.RangeFuncCalls
import Derived.RangeFuncLeaves
import Derived.RangeFuncBox
import Derived.Shelf.Abstract
import Derived.Shelf.RegionOpen
import Derived.WalkKit
import Derived.OwnWalkIn
import Derived.TacticsInMore
import Derived.LoopNIn
import Derived.LoopIn
import Derived.Lib.Hide
import Derived.Deep.RegionLaw
import Derived.Deep.QuietTactic
import Derived.BigQuiet
import Derived.Test.YtgfklingekiflaaProg
namespace Go.Proofs.Ytgfklingekiflaa
open Go.RowKit Go.Shelf
attribute [local go_sem] Oper.semAt_some

/-- A datagram. -/
structure G where
  c : Int
  u : Bool
  e : Int
  s : Int
  a : Int
  b : ByteArray
  deriving DecidableEq

def G.cells (g : G) : List Value := [.int .i64 g.c, .bool g.u, .int .i64 g.e, .int .i64 g.s, .int .i64 g.a, .string g.b]
def rows (l : List G) : List Value := l.flatMap G.cells

theorem rows_length (l : List G) : (rows l).length = l.length * 6 := by
  induction l with
  | nil => rfl
  | cons g l ih => simp only [rows, List.flatMap_cons, List.length_append, List.length_cons] at ih ⊢; rw [ih]; simp [G.cells]; omega

theorem rows_at (l : List G) (i j : Nat) (hj : j < 6) : (rows l)[i * 6 + j]? = (l[i]?).bind fun g => g.cells[j]? := by
  induction l generalizing i with
  | nil => simp [rows]
  | cons g l ih =>
    have hg : g.cells.length = 6 := rfl
    simp only [rows, List.flatMap_cons]
    cases i with
    | zero => rw [List.getElem?_append_left (by omega)]; simp
    | succ i => rw [List.getElem?_append_right (by omega), hg, show (i + 1) * 6 + j - 6 = i * 6 + j by omega]; exact ih i

/-- The blocks of S are as they were. -/
structure Same (S : Nat → Prop) (W W' : World) : Prop where
  size : W.heap.size ≤ W'.heap.size
  same : ∀ k, S k → W'.heap[k]? = W.heap[k]?

theorem Same.refl (S : Nat → Prop) (W : World) : Same S W W := ⟨Nat.le_refl _, fun _ _ => rfl⟩
theorem Same.trans {S : Nat → Prop} {A B C : World} (h : Same S A B) (k : Same S B C) : Same S A C := ⟨Nat.le_trans h.size k.size, fun i hi => (k.same i hi).trans (h.same i hi)⟩
theorem Same.cell {S : Nat → Prop} {A B : World} (h : Same S A B) {p : Addr} (hp : S p.block) : B.cell? p = A.cell? p := World.cell?_of_block (h.same _ hp)

/-- A net at block b whose list is the slice v. -/
structure NetAt (base : Nat) (W : World) (b : Nat) (v : Value) (l : List G) : Prop where
  le : base ≤ b
  box : W.heap[b]? = some (.cells #[v] 53 (0, 0))
  row : W.ownsRow base 27 6 v l.length (rows l)

theorem ownsRow_same {W W' : World} {base e size n : Nat} {v : Value} {xs : List Value} (h : W.ownsRow base e size v n xs) (hv : ∀ k, v.ownBlock = some k → W'.heap[k]? = W.heap[k]?) : W'.ownsRow base e size v n xs := by
  refine ⟨h.1, ?_⟩
  rcases h.2 with hn | ⟨g, cap, cur, rfl, hb, hgg, rest⟩
  · exact .inl hn
  · exact .inr ⟨g, cap, cur, rfl, hb, (hv g rfl).trans hgg, rest⟩

theorem NetAt.same {base : Nat} {W W' : World} {b : Nat} {v : Value} {l : List G} (h : NetAt base W b v l) (hb : W'.heap[b]? = W.heap[b]?) (hv : ∀ k, v.ownBlock = some k → W'.heap[k]? = W.heap[k]?) : NetAt base W' b v l :=
  ⟨h.le, hb.trans h.box, ownsRow_same h.row hv⟩

theorem NetAt.cell {base : Nat} {W : World} {b : Nat} {v : Value} {l : List G} (h : NetAt base W b v l) : W.cell? ⟨b, 0, none⟩ = some v := by simp [World.cell?, h.box]
theorem NetAt.frozen {base : Nat} {W : World} {b : Nat} {v : Value} {l : List G} (h : NetAt base W b v l) : W.frozen? ⟨b, 0, none⟩ = false := by simp [World.frozen?, h.box]
theorem NetAt.lt {base : Nat} {W : World} {b : Nat} {v : Value} {l : List G} (h : NetAt base W b v l) : b < W.heap.size := (Array.getElem?_eq_some_iff.1 h.box).1

theorem row_shape {W : World} {base e size n : Nat} {v : Value} {xs : List Value} (h : W.ownsRow base e size v n xs) : ∃ A cap, v = .slice A n cap ∧ (0 < n → ∃ g, A = some ⟨g, 0, none⟩) ∧ n ≤ cap ∧ cap ≤ maxLen := by
  rcases h.2 with ⟨rfl, rfl⟩ | ⟨g, cap, cur, rfl, _, _, h1, h2, _⟩
  · exact ⟨none, 0, rfl, fun h => absurd h (by omega), by omega, by simp [maxLen]⟩
  · exact ⟨_, cap, rfl, fun _ => ⟨g, rfl⟩, h1, h2⟩

/-- The six cells of an element. -/
theorem row_cells {W : World} {base g n cap : Nat} {l : List G} (h : W.ownsRow base 27 6 (.slice (some ⟨g, 0, none⟩) n cap) l.length (rows l)) {i : Nat} {x : G} (hi : l[i]? = some x) :
    W.cell? ⟨g, i * 6, none⟩ = some (.int .i64 x.c) ∧ W.cell? ⟨g, i * 6 + 1, none⟩ = some (.bool x.u) ∧ W.cell? ⟨g, i * 6 + 2, none⟩ = some (.int .i64 x.e) ∧
    W.cell? ⟨g, i * 6 + 3, none⟩ = some (.int .i64 x.s) ∧ W.cell? ⟨g, i * 6 + 4, none⟩ = some (.int .i64 x.a) ∧ W.cell? ⟨g, i * 6 + 5, none⟩ = some (.string x.b) := by
  have hc := h.cells (g := g) rfl
  have ha : ∀ j, (⟨g, 0, none⟩ : Addr).add j = ⟨g, j, none⟩ := fun j => by unfold Addr.add; split <;> simp_all
  refine ⟨?_, ?_, ?_, ?_, ?_, ?_⟩
  · have := hc (i * 6 + 0) _ (by rw [rows_at _ _ _ (by omega), hi]; rfl); rwa [ha] at this
  · have := hc (i * 6 + 1) _ (by rw [rows_at _ _ _ (by omega), hi]; rfl); rwa [ha] at this
  · have := hc (i * 6 + 2) _ (by rw [rows_at _ _ _ (by omega), hi]; rfl); rwa [ha] at this
  · have := hc (i * 6 + 3) _ (by rw [rows_at _ _ _ (by omega), hi]; rfl); rwa [ha] at this
  · have := hc (i * 6 + 4) _ (by rw [rows_at _ _ _ (by omega), hi]; rfl); rwa [ha] at this
  · have := hc (i * 6 + 5) _ (by rw [rows_at _ _ _ (by omega), hi]; rfl); rwa [ha] at this

/-! The plain functions. -/
def isWay (c : Int) (u : Bool) (g : G) : Bool := g.c == c && g.u == u
def hit (l : List G) (c : Int) (u : Bool) (i : Nat) : Bool := (l[i]?.map (isWay c u)).getD false
/-- where the datagrams of a way stand, of the first k places -/
def plc (l : List G) (c : Int) (u : Bool) (k : Nat) : List Nat := (List.range k).filter (hit l c u)
theorem plc_succ (l : List G) (c : Int) (u : Bool) (k : Nat) : plc l c u (k + 1) = plc l c u k ++ (if hit l c u k then [k] else []) := by
  simp only [plc, List.range_succ, List.filter_append, List.filter_cons, List.filter_nil]
theorem plc_length_le (l : List G) (c : Int) (u : Bool) (k : Nat) : (plc l c u k).length ≤ k := by
  unfold plc; exact Nat.le_trans (List.length_filter_le _ _) (by simp)
theorem plc_prefix (l : List G) (c : Int) (u : Bool) {j k : Nat} (h : j ≤ k) : plc l c u j <+: plc l c u k := by
  induction k with
  | zero => rw [Nat.le_zero.1 h]; exact List.prefix_refl _
  | succ k ih =>
    rcases Nat.lt_or_ge j (k + 1) with h1 | h1
    · rw [plc_succ]; exact (ih (by omega)).trans (List.prefix_append _ _)
    · rw [show j = k + 1 by omega]; exact List.prefix_refl _

theorem new_any (w : World) : Calls Try.prog 8 #[] w fun e w' => e = .returned (.pointer (some ⟨w.heap.size, 0, none⟩)) ∧ w' = w.alloc (.cells #[.slice none 0 0] 53) := by
  go_enter Try.func8, Try.ntmps8
  go_wp2
  go_ret
  exact ⟨rfl, rfl⟩

theorem gram_any (s : ByteArray) (w : World) : Calls Try.prog 12 #[.string s] w fun e w' => e = .returned (.agg #[.int .i64 1, .bool true, .int .i64 0, .int .i64 0, .int .i64 0, .string s]) ∧ Below w.heap.size w w' := by
  go_enter Try.func12, Try.ntmps12
  go_wp2
  exact bodyPost_ret (v := .agg #[.int .i64 1, .bool true, .int .i64 0, .int .i64 0, .int .i64 0, .string s]) (by simp [results, Try.results12, go_sem]) rfl ⟨rfl, (Below.refl _ _).alloc (Nat.le_refl _) _⟩
set_option maxRecDepth 100000 in
set_option maxHeartbeats 1000000 in
theorem way_in (F : Fence) (n : Nat) (h25 : F.fn 25) (hro : F.round = none) (p : Option Addr) (c : Int) (u : Bool) (w : World) :
    CallsIn F n Try.prog 25 #[.pointer p, .int .i64 c, .bool u] w fun e w' => e = .returned (.func (.func 34) #[] #[.pointer (some ⟨w.heap.size, 0, none⟩), .pointer (some ⟨w.heap.size + 1, 0, none⟩), .pointer (some ⟨w.heap.size + 2, 0, none⟩)]) ∧
      w' = ((w.alloc (.cells #[.pointer p] 24)).alloc (.cells #[.int .i64 c] 3)).alloc (.cells #[.bool u] 4) := by
  refine callsIn_of_wp Try.func25 rfl h25 ?_ hro
  simp only [Try.ntmps25, List.size_toArray, List.length_cons, List.length_nil, Nat.reduceAdd, Nat.reduceSub, Array.replicate_succ, Array.replicate_zero, List.push_toArray, List.append_toArray, List.nil_append, List.cons_append]
  gi_wp2
  go_ret
  exact ⟨rfl, rfl⟩

set_option maxRecDepth 100000 in
set_option maxHeartbeats 2000000 in
theorem way1_in (F : Fence) (n : Nat) (h34 : F.fn 34) (hro : F.round = none) (hn : 1 ≤ n) (y Bn Bc Bu base b : Nat) (v : Value) (l : List G) (c : Int) (u : Bool) (S : Nat → Prop)
    (hSb : S b) (hSv : ∀ k, v.ownBlock = some k → S k) (hSc : S Bc) (hSu : S Bu) (W : World) (hSl : ∀ k, S k → k < W.heap.size) (J Jx : List Nat → World → Prop)
    (hY : ∀ (pre : List Nat) (x : Nat) W', J pre W' → pre.length < l.length → YieldAt F (n - 1) Try.prog y #[.int .i64 (x : Int)] W' fun e W'' =>
      (e = .returned (.bool true) ∧ J (pre ++ [x]) W'' ∧ Same S W' W'') ∨ (e = .returned (.bool false) ∧ Jx (pre ++ [x]) W''))
    (hJ : AbidesFrom W.heap.size J)
    (hBn : W.cell? ⟨Bn, 0, none⟩ = some (.pointer (some ⟨b, 0, none⟩))) (hBc : W.cell? ⟨Bc, 0, none⟩ = some (.int .i64 c)) (hBu : W.cell? ⟨Bu, 0, none⟩ = some (.bool u))
    (hN : NetAt base W b v l) (h0 : J [] W) :
    CallsIn F n Try.prog 34 #[.func (.yield y) #[] #[], .pointer (some ⟨Bn, 0, none⟩), .pointer (some ⟨Bc, 0, none⟩), .pointer (some ⟨Bu, 0, none⟩)] W fun e W' => (∃ v, e = .returned v) ∧
      ((∃ ys, ys = plc l c u l.length ∧ J ys W') ∨ (∃ pre, pre <+: plc l c u l.length ∧ Jx pre W')) := by
  obtain ⟨A, cap, rfl, hA, hcap, hmax⟩ := row_shape hN.row
  unfold maxLen at hmax
  have hcell := hN.cell
  refine callsIn_of_wp Try.func34 rfl h34 ?_ hro
  simp only [Try.ntmps34, List.size_toArray, List.length_cons, List.length_nil, Nat.reduceAdd, Nat.reduceSub, Array.replicate_succ, Array.replicate_zero, List.push_toArray, List.append_toArray, List.nil_append, List.cons_append]
  gi_wp2
  gi_loopw [14] (fun i wr => ∃ k : Nat, k ≤ l.length ∧ i = .int .i64 k ∧ J (plc l c u k) wr ∧ Same S W wr)
    (fun i _ => l.length - (intOf i).toNat)
  case atStart => exact ⟨0, Nat.zero_le _, rfl, h0, Same.refl _ _⟩
  case round =>
    obtain ⟨k, hk, rfl, hJs, hnx⟩ := hrel
    by_cases hlt : k < l.length
    · obtain ⟨g, rfl⟩ := hA (by omega)
      obtain ⟨x, hx⟩ : ∃ x, l[k]? = some x := ⟨l[k], by simp [hlt]⟩
      have hNr := hN.same (hnx.same _ hSb) (fun k hk => hnx.same _ (hSv k hk))
      obtain ⟨c0, c1, c2, c3, c4, c5⟩ := row_cells hNr.row hx
      have hc := (hnx.cell (p := ⟨Bc, 0, none⟩) hSc).trans hBc
      have hu := (hnx.cell (p := ⟨Bu, 0, none⟩) hSu).trans hBu
      have hlc : Bc < wr.heap.size := World.block_lt_of_cell? _ _ hc
      have hlu : Bu < wr.heap.size := World.block_lt_of_cell? _ _ hu
      clear hcell hBn
      have hit_k : hit l c u k = isWay c u x := by simp [hit, hx]
      have hps := plc_succ l c u k
      rw [hit_k] at hps
      have skip : isWay c u x = false → plc l c u (k + 1) = plc l c u k := fun h => by rw [hps, h]; simp
      have take : isWay c u x = true → plc l c u (k + 1) = plc l c u k ++ [k] := fun h => by rw [hps, h]; simp
      have hab : ∀ o, J (plc l c u k) (wr.alloc o) := fun o => hJ _ _ _ none hJs (World.grownBy_alloc wr o none) (fun r e => by cases e)
      have hsa : ∀ o, Same S W (wr.alloc o) := fun o => ⟨by have := hnx.size; simp; omega, fun i hi => by
        have hi' : i < wr.heap.size := Nat.lt_of_lt_of_le (hSl i hi) hnx.size
        exact (Below.heap_alloc wr o i hi').trans (hnx.same i hi)⟩
      have HP := Lib.hid hps
      clear hps hit_k
      by_cases hc1 : (x.c == c) = true
      · by_cases hu1 : (x.u == u) = true
        · have HT := Lib.hid (take (by simp only [isWay, hc1, hu1]; rfl))
          clear take skip
          obtain ⟨fn, tmps, assign, body, hy, hR⟩ := hY (plc l c u k) k _ (hab (.cells #[.int .i64 x.c, .bool x.u, .int .i64 x.e, .int .i64 x.s, .int .i64 x.a, .string x.b] 27)) (by have := plc_length_le l c u k; omega)
          have HA := Lib.hid hab
          have HS := Lib.hid hsa
          clear hab hsa
          gi_wp2
          refine hR.mono ?_
          rintro e W3 (⟨rfl, hJ3, hk3⟩ | ⟨rfl, hJx3⟩)
          · gi_wp2
            go_roundw
            case rel => exact ⟨k + 1, by omega, by simp, by rw [HT.out]; exact hJ3, (HS.out _).trans hk3⟩
            case measure => simp [intOf]; omega
          · gi_wp2
            refine bodyPost_ret (results_none rfl _ _ _) rfl ?_
            exact ⟨⟨_, rfl⟩, .inr ⟨_, by rw [← HT.out]; exact plc_prefix l c u (by omega), hJx3⟩⟩
        · have hu0 : (x.u == u) = false := by simpa using hu1
          have HT := Lib.hid (skip (by simp only [isWay, hc1, hu0]; rfl))
          clear take skip hu1
          gi_wp2
          refine ⟨fun _ h => (by cases h), ?_⟩
          gi_wp2
          go_roundw
          case rel => exact ⟨k + 1, by omega, by simp, by rw [HT.out]; exact hab _, hsa _⟩
          case measure => simp [intOf]; omega
      · have hc0 : (x.c == c) = false := by simpa using hc1
        have HT := Lib.hid (skip (by simp only [isWay, hc0]; rfl))
        clear take skip hc1
        gi_wp2
        refine ⟨fun _ h => (by cases h), ?_⟩
        gi_wp2
        go_roundw
        case rel => exact ⟨k + 1, by omega, by simp, by rw [HT.out]; exact hab _, hsa _⟩
        case measure => simp [intOf]; omega
    · obtain rfl : k = l.length := by omega
      gi_wp2
      go_end0
      exact ⟨⟨_, rfl⟩, .inl ⟨_, rfl, hJs⟩⟩

set_option maxRecDepth 100000 in
set_option maxHeartbeats 1000000 in
theorem way1_nil_in (F : Fence) (n : Nat) (h34 : F.fn 34) (hro : F.round = none) (y Bn Bc Bu : Nat) (J : List Nat → World → Prop) (W : World)
    (hBn : W.cell? ⟨Bn, 0, none⟩ = some (.pointer none)) (h0 : J [] W) :
    CallsIn F n Try.prog 34 #[.func (.yield y) #[] #[], .pointer (some ⟨Bn, 0, none⟩), .pointer (some ⟨Bc, 0, none⟩), .pointer (some ⟨Bu, 0, none⟩)] W fun e W' => (∃ v, e = .returned v) ∧ J [] W' := by
  refine callsIn_of_wp Try.func34 rfl h34 ?_ hro
  simp only [Try.ntmps34, List.size_toArray, List.length_cons, List.length_nil, Nat.reduceAdd, Nat.reduceSub, Array.replicate_succ, Array.replicate_zero, List.push_toArray, List.append_toArray, List.nil_append, List.cons_append]
  gi_wp2
  refine bodyPost_ret (results_none rfl _ _ _) rfl ?_
  exact ⟨⟨_, rfl⟩, h0⟩

/-- **way's iterator**: the places of a way, rising. -/
theorem way_stops (F : Fence) (n : Nat) (h34 : F.fn 34) (hro : F.round = none) (hn : 1 ≤ n) (Bn Bc Bu base b : Nat) (v : Value) (l : List G) (c : Int) (u : Bool) (S : Nat → Prop) (w : World)
    (hSb : S b) (hSv : ∀ k, v.ownBlock = some k → S k) (hSc : S Bc) (hSu : S Bu) (hSl : ∀ k, S k → k < w.heap.size)
    (hBn : w.cell? ⟨Bn, 0, none⟩ = some (.pointer (some ⟨b, 0, none⟩))) (hBc : w.cell? ⟨Bc, 0, none⟩ = some (.int .i64 c)) (hBu : w.cell? ⟨Bu, 0, none⟩ = some (.bool u))
    (hN : NetAt base w b v l) :
    SeqStopsK F n Try.prog 34 #[.pointer (some ⟨Bn, 0, none⟩), .pointer (some ⟨Bc, 0, none⟩), .pointer (some ⟨Bu, 0, none⟩)] (fun x : Nat => #[Value.int .i64 (x : Int)]) (Same S)
      (fun ys => ys = plc l c u l.length) (fun pre => pre <+: plc l c u l.length) l.length w := fun y J Jx W hW hJ _ hY h0 =>
  way1_in F n h34 hro hn y Bn Bc Bu base b v l c u S hSb hSv hSc hSu W (fun k hk => Nat.lt_of_lt_of_le (hSl k hk) hW.size) J Jx hY hJ
    ((hW.cell (p := ⟨Bn, 0, none⟩) (World.block_lt_of_cell? _ _ hBn)).trans hBn) ((hW.cell (p := ⟨Bc, 0, none⟩) (World.block_lt_of_cell? _ _ hBc)).trans hBc) ((hW.cell (p := ⟨Bu, 0, none⟩) (World.block_lt_of_cell? _ _ hBu)).trans hBu)
    (hN.same (hW.block _ (hSl _ hSb)) (fun k hk => hW.block _ (hSl _ (hSv k hk)))) h0

theorem way_nil_stops (F : Fence) (n : Nat) (h34 : F.fn 34) (hro : F.round = none) (Bn Bc Bu : Nat) (S : Nat → Prop) (w : World)
    (hBn : w.cell? ⟨Bn, 0, none⟩ = some (.pointer none)) :
    SeqStopsK F n Try.prog 34 #[.pointer (some ⟨Bn, 0, none⟩), .pointer (some ⟨Bc, 0, none⟩), .pointer (some ⟨Bu, 0, none⟩)] (fun x : Nat => #[Value.int .i64 (x : Int)]) (Same S)
      (fun ys => ys = []) (fun _ => False) 0 w := fun y J _ W hW _ _ _ h0 =>
  (way1_nil_in F n h34 hro y Bn Bc Bu J W ((hW.cell (p := ⟨Bn, 0, none⟩) (World.block_lt_of_cell? _ _ hBn)).trans hBn) h0).mono fun _ _ ⟨he, hj⟩ => ⟨he, .inl ⟨_, rfl, hj⟩⟩

theorem sameK_b {S : Nat → Prop} {w : World} (hS : ∀ k, S k → k < w.heap.size) (W : World) (l : Nat) (o o' : Obj) (hl : w.heap.size ≤ l) (_ : W.heap[l]? = some o) (_ : o.isCells = false) (_ : o.isWalk = false) : Same S W (W.putObj l o') :=
  ⟨by simp, fun k hk => World.putObj_heap_other (by have := hS k hk; omega)⟩

/-- The count, by the iterator's contract. -/
theorem count_core (F : Fence) (n : Nat) (h13 : F.fn 13) (h25 : F.fn 25) (h34 : F.fn 34) (hro : F.round = none) (hn : 3 ≤ n) (p : Option Addr) (c : Int) (u : Bool) (w : World) (xs : List Nat) (N : Nat) (Sp : List Nat → Prop) (S : Nat → Prop)
    (hxs : xs.length ≤ 4611686018427387904) (hN : ∀ pre : List Nat, pre.length < N → N ≤ 4611686018427387904)
    (hS : ∀ k, S k → k ≠ w.heap.size ∧ k < w.heap.size + 4)
    (hseq : ∀ W, W = ((((w.alloc (.cells #[.int .i64 0] 3)).alloc (.cells #[.pointer p] 24)).alloc (.cells #[.int .i64 c] 3)).alloc (.cells #[.bool u] 4)) →
      SeqStopsK F (n - 1) Try.prog 34 #[.pointer (some ⟨w.heap.size + 1, 0, none⟩), .pointer (some ⟨w.heap.size + 1 + 1, 0, none⟩), .pointer (some ⟨w.heap.size + 1 + 2, 0, none⟩)] (fun x : Nat => #[Value.int .i64 (x : Int)]) (Same S) (fun ys => ys = xs) Sp N W) :
    CallsIn F n Try.prog 13 #[.pointer p, .int .i64 c, .bool u] w fun e w' => e = .returned (.int .i64 (xs.length : Int)) ∧ Below w.heap.size w w' := by
  have h1 : 1 ≤ n := by omega
  have h1' : 1 ≤ n - 1 := by omega
  have HS := Lib.hid hseq
  clear hseq
  refine callsIn_of_wp_marks Try.func13 rfl h13 ?_ hro
  simp only [Try.ntmps13, List.size_toArray, List.length_cons, List.length_nil, Nat.reduceAdd, Nat.reduceSub, Array.replicate_succ, Array.replicate_zero, List.push_toArray, List.append_toArray, List.nil_append, List.cons_append]
  gi_wp2_with (gi_at_call 25; refine (way_in F (n - 1) h25 hro _ _ _ _).mono ?_; rintro e w' ⟨rfl, rfl⟩)
  have hsq := HS.out _ rfl
  have hl := (World.alloc_heap_new w (.cells #[Value.int .i64 0] 3))
  have hb0 : Boxed ((((w.alloc (.cells #[.int .i64 0] 3)).alloc (.cells #[.pointer p] 24)).alloc (.cells #[.int .i64 c] 3)).alloc (.cells #[.bool u] 4)) w.heap.size 3 (.int .i64 0) := ((Boxed.new w 3 (.int .i64 0)).alloc _).alloc _ |>.alloc _
  have hB0 : Below w.heap.size w ((((w.alloc (.cells #[.int .i64 0] 3)).alloc (.cells #[.pointer p] 24)).alloc (.cells #[.int .i64 c] 3)).alloc (.cells #[.bool u] 4)) :=
    ((((Below.refl _ w).alloc (Nat.le_refl _) _).alloc (by simp) _).alloc (by simp; omega) _).alloc (by simp; omega) _
  have hsz0 : ((((w.alloc (.cells #[.int .i64 0] 3)).alloc (.cells #[.pointer p] 24)).alloc (.cells #[.int .i64 c] 3)).alloc (.cells #[.bool u] 4)).heap.size = w.heap.size + 4 := by simp
  generalize ((((w.alloc (.cells #[.int .i64 0] 3)).alloc (.cells #[.pointer p] 24)).alloc (.cells #[.int .i64 c] 3)).alloc (.cells #[.bool u] 4)) = W0 at *
  refine wpIn_rangeFunc_ownF hro h1 (gf := 34) (lb := #[.pointer (some ⟨w.heap.size + 1, 0, none⟩), .pointer (some ⟨w.heap.size + 1 + 1, 0, none⟩), .pointer (some ⟨w.heap.size + 1 + 2, 0, none⟩)]) rfl h34 (enters_of Try.func34 (by kernel_rfl) rfl)
    hsq (fun h k => h.trans k) (sameK_b (fun k hk => by have := (hS k hk).2; omega)) (Below.refl _ _) (fun _ => rfl)
    (fun pre W => Boxed W w.heap.size 3 (.int .i64 (pre.length : Int)) ∧ Below w.heap.size w W) (fun _ _ _ => False)
    ?hI (fun _ _ _ _ _ hs _ _ => hs) ⟨hb0, hB0⟩
    (fun x => { tmps := #[.pointer p, .int .i64 c, .bool u, undef, undef, undef, .int .i64 0, .pointer (some ⟨w.heap.size, 0, none⟩), .pointer p, .int .i64 c, .bool u, .func (.func 34) #[] #[.pointer (some ⟨w.heap.size + 1, 0, none⟩), .pointer (some ⟨w.heap.size + 1 + 1, 0, none⟩), .pointer (some ⟨w.heap.size + 1 + 2, 0, none⟩)], .int .i64 (x : Int), undef, undef, undef], defers := [] })
    ?assign ?body ?done ?stop
  case hI => exact OwnFrom.and (Own.from (fun s A B row hs hg hr => hs.kept hg (fun e => by obtain ⟨o, ho, hc⟩ := hr _ e.symm; rw [show A.heap[w.heap.size]? = _ from hs] at ho; cases ho; cases hc)) _) (ownFrom_below (Nat.le_refl _) (by omega))
  case assign =>
    intro l x W K hK
    gi_wp2
    simpa using hK
  case body =>
    rintro l pre x W ⟨hb, hB⟩ hlen
    have hc := hb.cell
    have hf := hb.frozen
    have hle := hN pre hlen
    have hlt : pre.length < N := hlen
    gi_wp2
    refine ⟨KeepsOthers.setCell _ _ _, ⟨by simp [World.setCell], fun k hk => Below.heap_setCell _ _ _ _ (hS k hk).1⟩, ?_, hB.setCell (p := ⟨w.heap.size, 0, none⟩) (Nat.le_refl _) _⟩
    have := hb.set (.int .i64 ((pre ++ [x]).length : Int))
    simpa using this
  case done =>
    rintro D ys W hD rfl ⟨hb, hB⟩ hK
    have hc := hb.cell
    gi_wp2
    refine ⟨by simp, .inl ⟨_, _, rfl, run_takeDeferred hK, ?_⟩⟩
    exact ⟨_, results_tmp rfl _ _ _, rfl, hB.trans (belowK_b (w := w) (Nat.le_refl _) W D _ _ (by omega) hK rfl rfl)⟩
  case stop =>
    rintro D c pre W _ _ h _
    exact h.elim

def cnt (l : List G) (c : Int) (u : Bool) : Nat := (plc l c u l.length).length
theorem cnt_le (l : List G) (c : Int) (u : Bool) : cnt l c u ≤ l.length := plc_length_le _ _ _ _

theorem net_len {base : Nat} {W : World} {b : Nat} {v : Value} {l : List G} (h : NetAt base W b v l) : l.length ≤ 9223372036854775807 := by
  obtain ⟨A, cap, _, _, h1, h2⟩ := row_shape h.row
  unfold maxLen at h2; omega

theorem count_any (base b : Nat) (v : Value) (l : List G) (c : Int) (u : Bool) (w : World) (hN : NetAt base w b v l) (hl : l.length ≤ 1000000) :
    Calls Try.prog 13 #[.pointer (some ⟨b, 0, none⟩), .int .i64 c, .bool u] w fun e w' => e = .returned (.int .i64 (cnt l c u : Int)) ∧ Below w.heap.size w w' := by
  refine (callsIn_wide (n := 3)).1 ?_
  refine count_core Fence.wide 3 trivial trivial trivial rfl (by omega) (some ⟨b, 0, none⟩) c u w (plc l c u l.length) l.length (fun pre => pre <+: plc l c u l.length)
    (fun k => k = b ∨ v.ownBlock = some k ∨ k = w.heap.size + 1 + 1 ∨ k = w.heap.size + 1 + 2) (by have := plc_length_le l c u l.length; omega) (fun _ _ => by omega) ?_ ?_
  · rintro k (rfl | h | rfl | rfl)
    · have := hN.lt; omega
    · have := (hN.row.lt k h).2; omega
    · omega
    · omega
  · rintro W rfl
    have hN' : NetAt base ((((w.alloc (.cells #[.int .i64 0] 3)).alloc (.cells #[.pointer (some ⟨b, 0, none⟩)] 24)).alloc (.cells #[.int .i64 c] 3)).alloc (.cells #[.bool u] 4)) b v l := by
      have hB : Below w.heap.size w ((((w.alloc (.cells #[.int .i64 0] 3)).alloc (.cells #[.pointer (some ⟨b, 0, none⟩)] 24)).alloc (.cells #[.int .i64 c] 3)).alloc (.cells #[.bool u] 4)) :=
        ((((Below.refl _ w).alloc (Nat.le_refl _) _).alloc (by simp) _).alloc (by simp; omega) _).alloc (by simp; omega) _
      exact hN.same (hB.block _ hN.lt) (fun k hk => hB.block _ (hN.row.lt k hk).2)
    refine way_stops Fence.wide 2 trivial rfl (by omega) _ _ _ base b v l c u _ _ (.inl rfl) (fun k hk => .inr (.inl hk)) (.inr (.inr (.inl rfl))) (.inr (.inr (.inr rfl))) ?_ ?_ ?_ ?_ hN'
    · rintro k (rfl | h | rfl | rfl)
      · have := hN.lt; simp; omega
      · have := (hN.row.lt k h).2; simp; omega
      · simp
      · simp
    · have h := (((Boxed.new (w.alloc (.cells #[.int .i64 0] 3)) 24 (.pointer (some ⟨b, 0, none⟩))).alloc (.cells #[.int .i64 c] 3)).alloc (.cells #[.bool u] 4)).cell
      simpa using h
    · have h := ((Boxed.new ((w.alloc (.cells #[.int .i64 0] 3)).alloc (.cells #[.pointer (some ⟨b, 0, none⟩)] 24)) 3 (.int .i64 c)).alloc (.cells #[.bool u] 4)).cell
      simpa using h
    · have h := (Boxed.new (((w.alloc (.cells #[.int .i64 0] 3)).alloc (.cells #[.pointer (some ⟨b, 0, none⟩)] 24)).alloc (.cells #[.int .i64 c] 3)) 4 (.bool u)).cell
      simpa using h

theorem count_nil (c : Int) (u : Bool) (w : World) :
    Calls Try.prog 13 #[.pointer none, .int .i64 c, .bool u] w fun e w' => e = .returned (.int .i64 0) ∧ Below w.heap.size w w' := by
  refine (callsIn_wide (n := 3)).1 ?_
  refine count_core Fence.wide 3 trivial trivial trivial rfl (by omega) none c u w [] 0 (fun _ => False) (fun _ => False) (by simp) (fun _ h => absurd h (by omega)) (fun _ h => h.elim) ?_
  rintro W rfl
  refine way_nil_stops Fence.wide 2 trivial rfl _ _ _ _ _ ?_
  have h := (((Boxed.new (w.alloc (.cells #[.int .i64 0] 3)) 24 (.pointer none)).alloc (.cells #[.int .i64 c] 3)).alloc (.cells #[.bool u] 4)).cell
  simpa using h

/-! place -/
def nth (xs : List Nat) (t : Int) : Int := if 0 ≤ t then (match xs[t.toNat]? with | some i => (i : Int) | none => -1) else -1
def plOf (l : List G) (c : Int) (u : Bool) (t : Int) : Int := nth (plc l c u l.length) t
theorem nth_none {xs : List Nat} {t : Int} (h : ∀ j : Nat, j < xs.length → t ≠ j) : nth xs t = -1 := by
  unfold nth
  split
  · rename_i h0
    rcases Nat.lt_or_ge t.toNat xs.length with h1 | h1
    · exact absurd (by omega) (h _ h1)
    · simp [List.getElem?_eq_none h1]
  · rfl
theorem nth_some {xs q : List Nat} {x : Nat} {t : Int} (h : q ++ [x] <+: xs) (ht : t = (q.length : Int)) : nth xs t = (x : Int) := by
  obtain ⟨r, rfl⟩ := h
  subst ht
  unfold nth
  rw [if_pos (by omega)]
  simp

theorem dec_zero {t : Int} {k : Nat} (h0 : -9223372036854775808 ≤ t) (h1 : t ≤ 9223372036854775807) (hk : k ≤ 1000000) : wrap64 (t - k) = 0 ↔ t = k := by
  unfold wrap64; omega
theorem dec_succ (t : Int) (k : Nat) : wrap64 (wrap64 (t - k) - 1) = wrap64 (t - ((k : Int) + 1)) := by
  unfold wrap64; omega
theorem dec_start {t : Int} (h0 : -9223372036854775808 ≤ t) (h1 : t ≤ 9223372036854775807) : t = wrap64 (t - ((0 : Nat) : Int)) := by
  unfold wrap64; omega

theorem place_core (F : Fence) (n : Nat) (h24 : F.fn 24) (h25 : F.fn 25) (h34 : F.fn 34) (hro : F.round = none) (hn : 3 ≤ n) (p : Option Addr) (c : Int) (u : Bool) (t : Int) (w : World) (xs : List Nat) (N : Nat) (S : Nat → Prop)
    (ht0 : -9223372036854775808 ≤ t) (ht1 : t ≤ 9223372036854775807) (hxs : xs.length ≤ 1000000) (hN : N ≤ 1000000)
    (hS : ∀ k, S k → k ≠ w.heap.size ∧ k ≠ w.heap.size + 1 ∧ k < w.heap.size + 5)
    (hseq : ∀ W, W = (((((w.alloc (.cells #[.int .i64 t] 3)).alloc (.cells #[.int .i64 0] 3)).alloc (.cells #[.pointer p] 24)).alloc (.cells #[.int .i64 c] 3)).alloc (.cells #[.bool u] 4)) →
      SeqStopsK F (n - 1) Try.prog 34 #[.pointer (some ⟨w.heap.size + 1 + 1, 0, none⟩), .pointer (some ⟨w.heap.size + 1 + 1 + 1, 0, none⟩), .pointer (some ⟨w.heap.size + 1 + 1 + 2, 0, none⟩)] (fun x : Nat => #[Value.int .i64 (x : Int)]) (Same S) (fun ys => ys = xs) (fun pre => pre <+: xs) N W) :
    CallsIn F n Try.prog 24 #[.pointer p, .int .i64 c, .bool u, .int .i64 t] w fun e w' => e = .returned (.int .i64 (nth xs t)) ∧ Below w.heap.size w w' := by
  have h1 : 1 ≤ n := by omega
  have h1' : 1 ≤ n - 1 := by omega
  have HS := Lib.hid hseq
  clear hseq
  refine callsIn_of_wp_marks Try.func24 rfl h24 ?_ hro
  simp only [Try.ntmps24, List.size_toArray, List.length_cons, List.length_nil, Nat.reduceAdd, Nat.reduceSub, Array.replicate_succ, Array.replicate_zero, List.push_toArray, List.append_toArray, List.nil_append, List.cons_append]
  gi_wp2_with (gi_at_call 25; refine (way_in F (n - 1) h25 hro _ _ _ _).mono ?_; rintro e w' ⟨rfl, rfl⟩)
  have hsq := HS.out _ rfl
  have hb0 : Boxed (((((w.alloc (.cells #[.int .i64 t] 3)).alloc (.cells #[.int .i64 0] 3)).alloc (.cells #[.pointer p] 24)).alloc (.cells #[.int .i64 c] 3)).alloc (.cells #[.bool u] 4)) w.heap.size 3 (.int .i64 t) := (((Boxed.new w 3 (.int .i64 t)).alloc _).alloc _ |>.alloc _).alloc _
  have hr0 : Boxed (((((w.alloc (.cells #[.int .i64 t] 3)).alloc (.cells #[.int .i64 0] 3)).alloc (.cells #[.pointer p] 24)).alloc (.cells #[.int .i64 c] 3)).alloc (.cells #[.bool u] 4)) (w.heap.size + 1) 3 (.int .i64 0) := by
    have h := (((Boxed.new (w.alloc (.cells #[.int .i64 t] 3)) 3 (.int .i64 0)).alloc (.cells #[.pointer p] 24)).alloc (.cells #[.int .i64 c] 3)).alloc (.cells #[.bool u] 4)
    simpa using h
  have hB0 : Below w.heap.size w (((((w.alloc (.cells #[.int .i64 t] 3)).alloc (.cells #[.int .i64 0] 3)).alloc (.cells #[.pointer p] 24)).alloc (.cells #[.int .i64 c] 3)).alloc (.cells #[.bool u] 4)) :=
    (((((Below.refl _ w).alloc (Nat.le_refl _) _).alloc (by simp) _).alloc (by simp; omega) _).alloc (by simp; omega) _).alloc (by simp; omega) _
  have hsz0 : (((((w.alloc (.cells #[.int .i64 t] 3)).alloc (.cells #[.int .i64 0] 3)).alloc (.cells #[.pointer p] 24)).alloc (.cells #[.int .i64 c] 3)).alloc (.cells #[.bool u] 4)).heap.size = w.heap.size + 5 := by simp
  generalize (((((w.alloc (.cells #[.int .i64 t] 3)).alloc (.cells #[.int .i64 0] 3)).alloc (.cells #[.pointer p] 24)).alloc (.cells #[.int .i64 c] 3)).alloc (.cells #[.bool u] 4)) = W0 at *
  refine wpIn_rangeFunc_ownF hro h1 (gf := 34) (lb := #[.pointer (some ⟨w.heap.size + 1 + 1, 0, none⟩), .pointer (some ⟨w.heap.size + 1 + 1 + 1, 0, none⟩), .pointer (some ⟨w.heap.size + 1 + 1 + 2, 0, none⟩)]) rfl h34 (enters_of Try.func34 (by kernel_rfl) rfl)
    hsq (fun h k => h.trans k) (sameK_b (fun k hk => by have := (hS k hk).2.2; omega)) (Below.refl _ _) (fun _ => rfl)
    (fun pre W => Boxed W w.heap.size 3 (.int .i64 (wrap64 (t - (pre.length : Int)))) ∧ Boxed W (w.heap.size + 1) 3 (.int .i64 0) ∧ (pre.length ≤ N ∧ ∀ j : Nat, j < pre.length → t ≠ j) ∧ Below w.heap.size w W)
    (fun c pre W => c = .ret ∧ (∃ (q : List Nat) (x : Nat), pre = q ++ [x] ∧ t = (q.length : Int) ∧ Boxed W (w.heap.size + 1) 3 (.int .i64 (x : Int))) ∧ Below w.heap.size w W)
    ?hI ?hIx ⟨by rw [List.length_nil, ← dec_start ht0 ht1]; exact hb0, hr0, ⟨by simp, by simp⟩, hB0⟩
    (fun x => { tmps := #[.pointer p, .int .i64 c, .bool u, .int .i64 t, undef, undef, undef, .pointer (some ⟨w.heap.size, 0, none⟩), .pointer (some ⟨w.heap.size + 1, 0, none⟩), .int .i64 (x : Int), .pointer p, .int .i64 c, .bool u, .func (.func 34) #[] #[.pointer (some ⟨w.heap.size + 1 + 1, 0, none⟩), .pointer (some ⟨w.heap.size + 1 + 1 + 1, 0, none⟩), .pointer (some ⟨w.heap.size + 1 + 1 + 2, 0, none⟩)], .int .i64 (x : Int), undef, undef, undef, undef, undef], defers := [] })
    ?assign ?body ?done ?stop
  case hI =>
    have bx : ∀ (B : Nat) (v : List Nat → Value), OwnFrom W0.heap.size (fun s W => Boxed W B 3 (v s)) := fun B v => Own.from (fun s A B' row hs hg hr => hs.kept hg (fun e => by obtain ⟨o, ho, hc⟩ := hr _ e.symm; rw [show A.heap[B]? = _ from hs] at ho; cases ho; cases hc)) _
    exact (bx _ _).and ((bx _ _).and (OwnFrom.and (fun _ _ _ _ h _ _ => h) (ownFrom_below (Nat.le_refl _) (by omega))))
  case hIx =>
    rintro c s A B row ⟨rfl, ⟨q, x, rfl, ht, hs⟩, hB⟩ hg hr
    exact ⟨rfl, ⟨q, x, rfl, ht, hs.kept hg (fun e => by obtain ⟨_, o, ho, hc⟩ := hr _ e.symm; rw [show A.heap[w.heap.size + 1]? = _ from hs] at ho; cases ho; cases hc)⟩, hB.grown hg (by have := hB.size; omega) (fun k e => by have := (hr k e).1; omega)⟩
  case assign =>
    intro l x W K hK
    gi_wp2
    simpa using hK
  case body =>
    rintro l pre x W ⟨hb, hrb, ⟨hpl, hpn⟩, hB⟩ hlen
    have hc := hb.cell
    have hf := hb.frozen
    have hc' := hrb.cell
    have hf' := hrb.frozen
    have hz := dec_zero (k := pre.length) ht0 ht1 (by omega)
    have hs := dec_succ t pre.length
    have hx := Lib.hid (p := (∀ j : Nat, j < pre.length → t ≠ j)) hpn
    have hbs := hb.set (.int .i64 (wrap64 (wrap64 (t - (pre.length : Int)) - 1)))
    have hrs := hrb.set (.int .i64 (x : Int))
    rw [hs] at hbs
    have hro1 : Boxed (W.setCell ⟨w.heap.size, 0, none⟩ (.int .i64 (wrap64 (t - ((pre.length : Int) + 1))))) (w.heap.size + 1) 3 (.int .i64 0) := hrb.kept (grownBy_setCell' W w.heap.size _) (by simp)
    have Hs := Lib.hid hs
    have HSS := Lib.hid hS
    clear hs hpn hS
    by_cases h0 : t = (pre.length : Int)
    · have hz0 : (wrap64 (t - (pre.length : Int)) == 0) = true := by simpa using hz.2 h0
      have H0 := Lib.hid h0
      have HZ := Lib.hid hz
      clear hz h0
      generalize wrap64 (t - (pre.length : Int)) = a at *
      have Hr := Lib.hid hrs
      clear hrs hro1 hbs
      gi_wp2
      exact ⟨KeepsOthers.setCell _ _ _, rfl, ⟨pre, x, rfl, H0.out, Hr.out⟩, hB.setCell (p := ⟨w.heap.size + 1, 0, none⟩) (by simp) _⟩
    · have hz0 : (wrap64 (t - (pre.length : Int)) == 0) = false := by simpa using fun h => h0 (hz.1 h)
      have H0 := Lib.hid h0
      clear hz h0
      have Hb := Lib.hid hbs
      have Ho := Lib.hid hro1
      clear hrs hbs hro1
      generalize wrap64 (t - (pre.length : Int)) = a at *
      gi_wp2
      rw [Hs.out]
      refine ⟨KeepsOthers.setCell _ _ _, ⟨by simp [World.setCell], fun k hk => Below.heap_setCell _ _ _ _ (HSS.out k hk).1⟩, ?_, Ho.out, ⟨by simp; omega, fun j hj => ?_⟩, hB.setCell (p := ⟨w.heap.size, 0, none⟩) (Nat.le_refl _) _⟩
      · have := Hb.out
        simpa using this
      · rcases Nat.lt_or_ge j pre.length with h | h
        · exact hx.out j h
        · have : j = pre.length := by simp at hj; omega
          subst this; exact H0.out
  case done =>
    rintro D ys W hD rfl ⟨hb, hr, ⟨_, hn⟩, hB⟩ hK
    have hc := hr.cell
    have hf := hr.frozen
    have hn := Lib.hid (nth_none hn)
    have hlt := hr.lt
    gi_wp2
    have hK2 := (KeepsOthers.setCell W ⟨w.heap.size + 1, 0, none⟩ (.int .i64 (-1))).same D _ hK rfl
    have hc2 := cell_kept (hr.set (.int .i64 (-1))).cell (grownBy_putObj' _ D (.deferred none)) (fun r e => by cases e; exact ⟨_, hK2, rfl⟩)
    refine ⟨by simp, .inl ⟨_, _, rfl, run_takeDeferred hK2, ?_⟩⟩
    refine ⟨.int .i64 (-1), by simp [results, Try.results24, go_sem, hc2], by rw [hn.out], ?_⟩
    exact (hB.setCell (p := ⟨w.heap.size + 1, 0, none⟩) (by simp) _).trans (belowK_b (w := w) (Nat.le_refl _) _ D _ _ (by omega) hK2 rfl rfl)
  case stop =>
    rintro D c pre W hD hpre ⟨rfl, ⟨q, x, rfl, ht, hr⟩, hB⟩ hK
    have hc := hr.cell
    gi_wp2
    have hc2 := cell_kept hr.cell (grownBy_putObj' _ D (.deferred none)) (fun r e => by cases e; exact ⟨_, hK, rfl⟩)
    refine ⟨by simp, .inl ⟨_, _, rfl, run_takeDeferred hK, ?_⟩⟩
    refine ⟨.int .i64 (x : Int), by simp [results, Try.results24, go_sem, hc2], by rw [nth_some hpre ht], ?_⟩
    exact hB.trans (belowK_b (w := w) (Nat.le_refl _) _ D _ _ (by omega) hK rfl rfl)

theorem place_any (base b : Nat) (v : Value) (l : List G) (c : Int) (u : Bool) (t : Int) (w : World) (ht0 : -9223372036854775808 ≤ t) (ht1 : t ≤ 9223372036854775807) (hN : NetAt base w b v l) (hl : l.length ≤ 1000000) :
    Calls Try.prog 24 #[.pointer (some ⟨b, 0, none⟩), .int .i64 c, .bool u, .int .i64 t] w fun e w' => e = .returned (.int .i64 (plOf l c u t)) ∧ Below w.heap.size w w' := by
  refine (callsIn_wide (n := 3)).1 ?_
  refine place_core Fence.wide 3 trivial trivial trivial rfl (by omega) (some ⟨b, 0, none⟩) c u t w (plc l c u l.length) l.length
    (fun k => k = b ∨ v.ownBlock = some k ∨ k = w.heap.size + 1 + 1 + 1 ∨ k = w.heap.size + 1 + 1 + 2) ht0 ht1 (by have := plc_length_le l c u l.length; omega) (by omega) ?_ ?_
  · rintro k (rfl | h | rfl | rfl)
    · have := hN.lt; omega
    · have := (hN.row.lt k h).2; omega
    · omega
    · omega
  · rintro W rfl
    have hB : Below w.heap.size w (((((w.alloc (.cells #[.int .i64 t] 3)).alloc (.cells #[.int .i64 0] 3)).alloc (.cells #[.pointer (some ⟨b, 0, none⟩)] 24)).alloc (.cells #[.int .i64 c] 3)).alloc (.cells #[.bool u] 4)) :=
      (((((Below.refl _ w).alloc (Nat.le_refl _) _).alloc (by simp) _).alloc (by simp; omega) _).alloc (by simp; omega) _).alloc (by simp; omega) _
    have hN' := hN.same (hB.block _ hN.lt) (fun k hk => hB.block _ (hN.row.lt k hk).2)
    refine way_stops Fence.wide 2 trivial rfl (by omega) _ _ _ base b v l c u _ _ (.inl rfl) (fun k hk => .inr (.inl hk)) (.inr (.inr (.inl rfl))) (.inr (.inr (.inr rfl))) ?_ ?_ ?_ ?_ hN'
    · rintro k (rfl | h | rfl | rfl)
      · have := hN.lt; simp; omega
      · have := (hN.row.lt k h).2; simp; omega
      · simp
      · simp
    · have h := (((Boxed.new ((w.alloc (.cells #[.int .i64 t] 3)).alloc (.cells #[.int .i64 0] 3)) 24 (.pointer (some ⟨b, 0, none⟩))).alloc (.cells #[.int .i64 c] 3)).alloc (.cells #[.bool u] 4)).cell
      simpa using h
    · have h := ((Boxed.new (((w.alloc (.cells #[.int .i64 t] 3)).alloc (.cells #[.int .i64 0] 3)).alloc (.cells #[.pointer (some ⟨b, 0, none⟩)] 24)) 3 (.int .i64 c)).alloc (.cells #[.bool u] 4)).cell
      simpa using h
    · have h := (Boxed.new ((((w.alloc (.cells #[.int .i64 t] 3)).alloc (.cells #[.int .i64 0] 3)).alloc (.cells #[.pointer (some ⟨b, 0, none⟩)] 24)).alloc (.cells #[.int .i64 c] 3)) 4 (.bool u)).cell
      simpa using h

theorem place_nil (c : Int) (u : Bool) (t : Int) (w : World) (ht0 : -9223372036854775808 ≤ t) (ht1 : t ≤ 9223372036854775807) :
    Calls Try.prog 24 #[.pointer none, .int .i64 c, .bool u, .int .i64 t] w fun e w' => e = .returned (.int .i64 (-1)) ∧ Below w.heap.size w w' := by
  refine (callsIn_wide (n := 3)).1 ?_
  have h := place_core Fence.wide 3 trivial trivial trivial rfl (by omega) none c u t w [] 0 (fun _ => False) ht0 ht1 (by simp) (by omega) (fun _ h => h.elim) ?_
  · rwa [nth_none (by simp)] at h
  · rintro W rfl
    have hs := way_nil_stops Fence.wide 2 trivial rfl (w.heap.size + 1 + 1) (w.heap.size + 1 + 1 + 1) (w.heap.size + 1 + 1 + 2) (fun _ => False) (((((w.alloc (.cells #[.int .i64 t] 3)).alloc (.cells #[.int .i64 0] 3)).alloc (.cells #[.pointer none] 24)).alloc (.cells #[.int .i64 c] 3)).alloc (.cells #[.bool u] 4))
      (by have h := (((Boxed.new ((w.alloc (.cells #[.int .i64 t] 3)).alloc (.cells #[.int .i64 0] 3)) 24 (.pointer none)).alloc (.cells #[.int .i64 c] 3)).alloc (.cells #[.bool u] 4)).cell
          simpa using h)
    exact fun y J Jx W hW hJ hJx hY h0 => (hs y J Jx W hW hJ hJx hY h0).mono fun _ _ ⟨he, h⟩ => ⟨he, h.imp id (fun ⟨_, hf, _⟩ => hf.elim)⟩
end Go.Proofs.Ytgfklingekiflaa
