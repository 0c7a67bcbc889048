/- The walks of the reference's net: Count, place, Put, drop. -/
import Derived.Deep.RegionLaw
import Derived.Deep.RegionHeld3
import Derived.Deep.AppendLies
import Derived.Deep.DeepCutAuto
import Derived.BigRegion
import Derived.Outline
import Derived.Test.YtgfklingekiflaaPick
namespace Go.Proofs.Ytgfklingekiflaa
open Go.RowKit Go.Shelf
set_option linter.unusedSimpArgs false

/-- The reference's net at block b whose list is the slice v. -/
structure RAt (base : Nat) (W : World) (b : Nat) (v : Value) (l : List G) : Prop where
  le : base ≤ b
  box : W.heap[b]? = some (.cells #[v] 48 (0, 0))
  row : W.ownsRow base 27 6 v l.length (rows l)

theorem RAt.same {base : Nat} {W W' : World} {b : Nat} {v : Value} {l : List G} (h : RAt base W b v l) (hb : W'.heap[b]? = W.heap[b]?) (hv : ∀ k, v.ownBlock = some k → W'.heap[k]? = W.heap[k]?) : RAt base W' b v l :=
  ⟨h.le, hb.trans h.box, ownsRow_same h.row hv⟩
theorem RAt.cell {base : Nat} {W : World} {b : Nat} {v : Value} {l : List G} (h : RAt base W b v l) : W.cell? ⟨b, 0, none⟩ = some v := by simp [World.cell?, h.box]
theorem RAt.frozen {base : Nat} {W : World} {b : Nat} {v : Value} {l : List G} (h : RAt base W b v l) : W.frozen? ⟨b, 0, none⟩ = false := by simp [World.frozen?, h.box]
theorem RAt.lt {base : Nat} {W : World} {b : Nat} {v : Value} {l : List G} (h : RAt base W b v l) : b < W.heap.size := (Array.getElem?_eq_some_iff.1 h.box).1
theorem RAt.below {base : Nat} {w w' : World} {b : Nat} {v : Value} {l : List G} (hN : RAt base w b v l) (h : Below w.heap.size w w') : RAt base w' b v l := hN.same (h.block b hN.lt) (fun k hk => h.block k (hN.row.lt k hk).2)

def RPost (base : Nat) (w : World) (b : Nat) (v : Value) (l' : List G) (w' : World) : Prop := ∃ v', RAt base w' b v' l' ∧ Touch b v w w' ∧ Fresh w v v'

theorem RPost.of_below {base : Nat} {w w' : World} {b : Nat} {v : Value} {l : List G} (hN : RAt base w b v l) (h : Below w.heap.size w w') : RPost base w b v l w' :=
  ⟨v, hN.same (h.block _ hN.lt) (fun k hk => h.block k (hN.row.lt k hk).2), Touch.of_below h, .inl rfl⟩

theorem plc_hit {l : List G} {c : Int} {u : Bool} {i : Nat} {x : G} (hx : l[i]? = some x) : plc l c u (i + 1) = plc l c u i ++ (if isWay c u x then [i] else []) := by
  rw [plc_succ]; unfold hit; rw [hx]; rfl

set_option maxHeartbeats 1000000 in
set_option maxRecDepth 100000 in
theorem rcount_any (base b : Nat) (v : Value) (l : List G) (c : Int) (u : Bool) (w : World) (hN : RAt base w b v l) (hl : l.length ≤ 1000000) :
    Calls Try.prog 21 #[.pointer (some ⟨b, 0, none⟩), .int .i64 c, .bool u] w fun e w' => e = .returned (.int .i64 (cnt l c u : Int)) ∧ w = w' := by
  have hrow := hN.row
  have hcb := hN.cell
  obtain ⟨A, cap, rfl, hA, hc1, hc2⟩ := row_shape hN.row
  unfold maxLen at hc2
  have HN := Lib.hid hN
  have HR := Lib.hid hrow
  clear hN hrow
  obtain ⟨n, hn⟩ : ∃ n, n = l.length := ⟨_, rfl⟩
  rw [← hn] at hcb hA hc1 hl
  have Hn := Lib.hid hn
  clear hn
  go_enter Try.func21, Try.ntmps21
  go_wp2_with fail
  go_loopw [7, 8] (fun kv iv wr => ∃ i : Nat, kv = .int .i64 (plc l c u i).length ∧ iv = .int .i64 i ∧ i ≤ n ∧ w = wr) (fun _ iv _ => n - (intOf iv).toNat)
  case atStart => exact ⟨0, rfl, rfl, by omega, rfl⟩
  case round =>
    obtain ⟨i, rfl, rfl, hi, rfl⟩ := hrel
    have hpl := plc_length_le l c u i
    by_cases hlt : i < n
    · obtain ⟨x, hx⟩ : ∃ x, l[i]? = some x := ⟨l[i]'(by have := Hn.out; omega), by simp⟩
      obtain ⟨g, rfl⟩ := hA (by omega)
      have hr := HR.out
      obtain ⟨d0, d1, d2, d3, d4, d5⟩ := row_cells hr hx
      have hgl : g < w.heap.size := (hr.lt g rfl).2
      have HP := Lib.hid (plc_hit (c := c) (u := u) hx)
      clear hr hx
      obtain ⟨xc, xu, xe, xs, xa, xb⟩ := x
      dsimp only at d0 d1 d2 d3 d4 d5
      obtain ⟨k, hk⟩ : ∃ k, k = (plc l c u i).length := ⟨_, rfl⟩
      rw [← hk] at hpl ⊢
      by_cases h1 : xc = c
      · subst h1
        by_cases h2 : xu = u
        · subst h2
          have hk2 : Hid ((plc l xc xu (i + 1)).length = k + 1) := by
            show _ = _
            rw [HP.out, hk]; simp [isWay]
          clear hk HP
          go_wp2
          go_roundw
          case rel => exact ⟨i + 1, by rw [hk2.out]; simp, by simp, by omega, trivial⟩
          case measure => simp [intOf]; omega
        · have hk2 : Hid ((plc l xc u (i + 1)).length = k) := by
            show _ = _
            rw [HP.out, hk]; simp [isWay, h2]
          have hb : (xu == u) = false := by simpa using h2
          clear hk HP h2
          go_wp2
          go_roundw
          case rel => exact ⟨i + 1, by rw [hk2.out], by simp, by omega, trivial⟩
          case measure => simp [intOf]; omega
      · have hk2 : Hid ((plc l c u (i + 1)).length = k) := by
          show _ = _
          rw [HP.out, hk]; simp [isWay, h1]
        have hb : (xc == c) = false := by simpa using h1
        clear hk HP h1
        go_wp2
        go_roundw
        case rel => exact ⟨i + 1, by rw [hk2.out], by simp, by omega, trivial⟩
        case measure => simp [intOf]; omega
    · obtain rfl : i = n := by omega
      have he : Hid ((plc l c u i).length = cnt l c u) := by rw [Hn.out]; exact rfl
      clear hlt hpl
      go_wp2
      go_ret
      exact ⟨congrArg (fun z : Nat => Ending.returned (Value.int .i64 z)) he.out, rfl⟩

set_option maxHeartbeats 1000000 in
set_option maxRecDepth 100000 in
theorem rplace_any (base b : Nat) (v : Value) (l : List G) (c : Int) (u : Bool) (t : Int) (w : World) (hN : RAt base w b v l) (hl : l.length ≤ 1000000) :
    Calls Try.prog 28 #[.pointer (some ⟨b, 0, none⟩), .int .i64 c, .bool u, .int .i64 t] w fun e w' => e = .returned (.int .i64 (plOf l c u t)) ∧ w = w' := by
  have hrow := hN.row
  have hcb := hN.cell
  obtain ⟨A, cap, rfl, hA, hc1, hc2⟩ := row_shape hN.row
  unfold maxLen at hc2
  have HN := Lib.hid hN
  have HR := Lib.hid hrow
  clear hN hrow
  obtain ⟨n, hn⟩ : ∃ n, n = l.length := ⟨_, rfl⟩
  rw [← hn] at hcb hA hc1 hl
  have Hn := Lib.hid hn
  clear hn
  go_enter Try.func28, Try.ntmps28
  go_wp2_with fail
  go_loopw [9, 10] (fun kv iv wr => ∃ i : Nat, kv = .int .i64 (plc l c u i).length ∧ iv = .int .i64 i ∧ i ≤ n ∧ w = wr ∧ Hid (∀ j : Nat, j < (plc l c u i).length → t ≠ j)) (fun _ iv _ => n - (intOf iv).toNat)
  case atStart => exact ⟨0, rfl, rfl, by omega, rfl, by intro j hj; simp [plc] at hj⟩
  case round =>
    obtain ⟨i, rfl, rfl, hi, rfl, hno⟩ := hrel
    have hpl := plc_length_le l c u i
    by_cases hlt : i < n
    · obtain ⟨x, hx⟩ : ∃ x, l[i]? = some x := ⟨l[i]'(by have := Hn.out; omega), by simp⟩
      obtain ⟨g, rfl⟩ := hA (by omega)
      have hr := HR.out
      obtain ⟨d0, d1, d2, d3, d4, d5⟩ := row_cells hr hx
      have hgl : g < w.heap.size := (hr.lt g rfl).2
      have HP := Lib.hid (plc_hit (c := c) (u := u) hx)
      have HX := Lib.hid (plc_prefix l c u (show i + 1 ≤ l.length by have := Hn.out; omega))
      clear hr hx
      obtain ⟨xc, xu, xe, xs, xa, xb⟩ := x
      dsimp only at d0 d1 d2 d3 d4 d5
      obtain ⟨k, hk⟩ : ∃ k, k = (plc l c u i).length := ⟨_, rfl⟩
      rw [← hk] at hpl hno ⊢
      by_cases h1 : xc = c
      · subst h1
        by_cases h2 : xu = u
        · subst h2
          by_cases h3 : (k : Int) = t
          · have he : Hid (plOf l xc xu t = (i : Int)) := by
              have h := HX.out
              rw [HP.out] at h
              simp only [isWay, beq_self_eq_true, Bool.and_self, if_true] at h
              exact nth_some h (by rw [← hk]; exact h3.symm)
            have hb : ((k : Int) == t) = true := by simpa using h3
            clear hk HP HX h3 hno
            go_wp2
            go_ret
            exact ⟨congrArg (fun z : Int => Ending.returned (Value.int .i64 z)) he.out.symm, rfl⟩
          · have hk2 : Hid ((plc l xc xu (i + 1)).length = k + 1) := by
              show _ = _
              rw [HP.out, hk]; simp [isWay]
            have hno2 : Hid (∀ j : Nat, j < (plc l xc xu (i + 1)).length → t ≠ j) := fun j hj => by
              rw [hk2.out] at hj
              rcases Nat.lt_or_ge j k with h | h
              · exact hno.out j h
              · have : j = k := by omega
                subst this
                exact fun e => h3 e.symm
            have hb : ((k : Int) == t) = false := by simpa using h3
            clear hk HP HX h3 hno
            go_wp2
            go_roundw
            case rel => exact ⟨i + 1, by rw [hk2.out]; simp, by simp, by omega, trivial, hno2⟩
            case measure => simp [intOf]; omega
        · have hk2 : Hid ((plc l xc u (i + 1)).length = k) := by
            show _ = _
            rw [HP.out, hk]; simp [isWay, h2]
          have hno2 : Hid (∀ j : Nat, j < (plc l xc u (i + 1)).length → t ≠ j) := fun j hj => hno.out j (by rw [hk2.out] at hj; exact hj)
          have hb : (xu == u) = false := by simpa using h2
          clear hk HP HX h2 hno
          go_wp2
          go_roundw
          case rel => exact ⟨i + 1, by rw [hk2.out], by simp, by omega, trivial, hno2⟩
          case measure => simp [intOf]; omega
      · have hk2 : Hid ((plc l c u (i + 1)).length = k) := by
          show _ = _
          rw [HP.out, hk]; simp [isWay, h1]
        have hno2 : Hid (∀ j : Nat, j < (plc l c u (i + 1)).length → t ≠ j) := fun j hj => hno.out j (by rw [hk2.out] at hj; exact hj)
        have hb : (xc == c) = false := by simpa using h1
        clear hk HP HX h1 hno
        go_wp2
        all_goals
          go_roundw
          case rel => exact ⟨i + 1, by rw [hk2.out], by simp, by omega, trivial, hno2⟩
          case measure => simp [intOf]; omega
    · obtain rfl : i = n := by omega
      have he : Hid (plOf l c u t = -1) := nth_none (by have := hno.out; rw [Hn.out] at this; exact this)
      clear hlt hpl hno
      go_wp2
      go_ret
      exact ⟨congrArg (fun z : Int => Ending.returned (Value.int .i64 z)) he.out.symm, rfl⟩

theorem rcount_below (base b : Nat) (v : Value) (l : List G) (c : Int) (u : Bool) (w : World) (hN : RAt base w b v l) (hl : l.length ≤ 1000000) :
    Calls Try.prog 21 #[.pointer (some ⟨b, 0, none⟩), .int .i64 c, .bool u] w fun e w' => e = .returned (.int .i64 (cnt l c u : Int)) ∧ Below w.heap.size w w' :=
  (rcount_any base b v l c u w hN hl).mono fun _ _ ⟨h1, h2⟩ => ⟨h1, h2 ▸ Below.refl _ _⟩

def RPutPost (base : Nat) (w : World) (b : Nat) (v : Value) (l : List G) (g : G) (e : Ending) (w' : World) : Prop := e = .returned (.int .i64 (putCode l g)) ∧ RPost base w b v (putList l g) w'

theorem rput_close {base : Nat} {w w1 W' w2 : World} {b g2 cap2 n : Nat} {v : Value} {l : List G} {g : G} (hN : RAt base w b v l) (HW1 : Below w.heap.size w w1) (HX1 : Below w1.heap.size w1 W')
    (hbx : Boxed w2 b 48 v) (HG : W'.grownBy w2 v.ownBlock) (hat : v.ownBlock = some g2 ∨ g2 = W'.heap.size) (HW : w2.ownsRow base 27 6 (.slice (some ⟨g2, 0, none⟩) n cap2) n (rows l ++ rows [g])) (hn : n = l.length + 1) :
    RPost base w b v (l ++ [g]) (w2.setCell ⟨b, 0, none⟩ (.slice (some ⟨g2, 0, none⟩) n cap2)) := by
  subst hn
  have hB : Below w.heap.size w W' := HW1.trans (HX1.mono HW1.size)
  have hne : some b ≠ (Value.slice (some ⟨g2, 0, none⟩) (l.length + 1) cap2).ownBlock := hbx.not_row (by decide) HW
  refine ⟨.slice (some ⟨g2, 0, none⟩) (l.length + 1) cap2, ⟨hN.le, hbx.set _, ?_⟩, ⟨?_, ?_, ?_, ?_, ?_⟩, ?_⟩
  · have h := HW.kept (grownBy_setCell' w2 b (.slice (some ⟨g2, 0, none⟩) (l.length + 1) cap2)) (.inr hne.symm)
    simpa [rows] using h
  · exact (HG.os).trans hB.os
  · exact (HG.tape).trans hB.tape
  · exact (HG.output).trans hB.output
  · exact Nat.le_trans hB.size (Nat.le_trans HG.size (KeepsWalks.setCell w2 _ _).size)
  · intro k hk hkb hkv
    rw [Below.heap_setCell _ _ _ _ hkb, HG.block k (Nat.lt_of_lt_of_le hk hB.size) (fun e => hkv e.symm), hB.block k hk]
  · rcases hat with h | h
    · exact .inl (by rw [h]; rfl)
    · right
      intro k hk
      have : g2 = k := by simpa [Value.ownBlock] using hk
      have := hB.size
      omega

set_option maxHeartbeats 1000000 in
set_option maxRecDepth 100000 in
theorem rput_any (base b : Nat) (v : Value) (l : List G) (g : G) (w : World) (hN : RAt base w b v l) (hl : l.length ≤ 1000000) :
    Calls Try.prog 16 #[.pointer (some ⟨b, 0, none⟩), .agg #[.int .i64 g.c, .bool g.u, .int .i64 g.e, .int .i64 g.s, .int .i64 g.a, .string g.b]] w (RPutPost base w b v l g) := by
  by_cases h1 : g.c < 1
  · have hp : putCode l g = 1 := by simp [putCode, h1]
    have hq : putList l g = l := by simp [putList, hp]
    have H := Lib.hid hp
    have H2 := Lib.hid hq
    clear hp hq
    go_enter Try.func16, Try.ntmps16
    go_wp2
    go_ret
    refine ⟨congrArg (fun z => Ending.returned (Value.int .i64 z)) H.out.symm, ?_⟩
    rw [H2.out]
    exact RPost.of_below hN ((Below.refl _ _).alloc (Nat.le_refl _) _)
  by_cases h8 : 8 < g.c
  · have hp : putCode l g = 1 := by simp [putCode, h8]
    have hq : putList l g = l := by simp [putList, hp]
    have H := Lib.hid hp
    have H2 := Lib.hid hq
    clear hp hq
    go_enter Try.func16, Try.ntmps16
    go_wp2
    go_ret
    refine ⟨congrArg (fun z => Ending.returned (Value.int .i64 z)) H.out.symm, ?_⟩
    rw [H2.out]
    exact RPost.of_below hN ((Below.refl _ _).alloc (Nat.le_refl _) _)
  have hB1 : Below w.heap.size w (w.alloc (.cells #[.int .i64 g.c, .bool g.u, .int .i64 g.e, .int .i64 g.s, .int .i64 g.a, .string g.b] 27)) := (Below.refl _ _).alloc (Nat.le_refl _) _
  have hN1 := hN.same (hB1.block _ hN.lt) (fun k hk => hB1.block k (hN.row.lt k hk).2)
  have hcnt := fun c u => rcount_below base b v l c u _ hN1 hl
  have hcl := cnt_le l g.c g.u
  by_cases h64 : 64 ≤ cnt l g.c g.u
  · have hp : putCode l g = 11 := by simp [putCode, h1, h8, h64]
    have hq : putList l g = l := by simp [putList, hp]
    have H := Lib.hid hp
    have H2 := Lib.hid hq
    clear hp hq
    go_enter Try.func16, Try.ntmps16
    go_wp2_with (go_at_call 21; refine (hcnt _ _).mono ?_; rintro e w1 ⟨rfl, hb1⟩)
    go_ret
    refine ⟨congrArg (fun z => Ending.returned (Value.int .i64 z)) H.out.symm, ?_⟩
    rw [H2.out]
    exact RPost.of_below hN (hB1.trans (hb1.mono (by simp)))
  · have hp : putCode l g = 0 := by simp [putCode, h1, h8, h64]
    have hq : putList l g = l ++ [g] := by simp [putList, hp]
    have H := Lib.hid hp
    have H2 := Lib.hid hq
    clear hp hq
    obtain ⟨i0, hi, hz0, hz1, hz2⟩ := info27all
    go_enter Try.func16, Try.ntmps16
    go_wp2_with (go_at_call 21; refine (hcnt _ _).mono ?_; rintro e w1 ⟨rfl, hb1⟩)
    have hW1 : Below w.heap.size w w1 := hB1.trans (hb1.mono (by simp))
    have hN2 := hN1.same (hb1.block _ hN1.lt) (fun k hk => hb1.block k (hN1.row.lt k hk).2)
    have hcb := hN2.cell
    have hfb := hN2.frozen
    have hlb : b < w1.heap.size := hN2.lt
    have hlw : w.heap.size < w1.heap.size := by have := hb1.size; simp at this; omega
    have pc : ∀ j x, (#[Value.int .i64 g.c, .bool g.u, .int .i64 g.e, .int .i64 g.s, .int .i64 g.a, .string g.b])[j]? = some x → w1.cell? ⟨w.heap.size, j, none⟩ = some x := fun j x hx => by
      rw [hb1.cell (p := ⟨w.heap.size, j, none⟩) (by simp)]
      rw [cell_of_row _ w.heap.size j _ 27 (0, 0) (World.alloc_heap_new w _)]; exact hx
    have p0 := pc 0 _ rfl
    have p1 := pc 1 _ rfl
    have p2 := pc 2 _ rfl
    have p3 := pc 3 _ rfl
    have p4 := pc 4 _ rfl
    have p5 := pc 5 _ rfl
    have hbase : base ≤ w1.heap.size := Nat.le_trans hN2.le (Nat.le_of_lt hlb)
    have HN2 := Lib.hid hN2
    have HW1 := Lib.hid hW1
    clear pc hW1 hB1 hb1 hN1 hcnt
    have HO : Hid (∀ W, Below w1.heap.size w1 W → W.ownsRow base 27 6 v l.length (rows l)) := fun W hW => ownsRow_same hN2.row (fun k hk => hW.block k (hN2.row.lt k hk).2)
    have hbx : Hid (∀ W, Below w1.heap.size w1 W → Boxed W b 48 v) := fun W hW => (hW.block _ hN2.lt).trans hN2.box
    clear hN2
    obtain ⟨X, hX⟩ : ∃ X, X = Obj.cells #[Value.int .i64 g.c, .bool g.u, .int .i64 g.e, .int .i64 g.s, .int .i64 g.a, .string g.b] 27 (0, 0) := ⟨_, rfl⟩
    have HX1 : Hid (Below w1.heap.size w1 ((w1.alloc (Obj.cells #[Value.int .i64 g.c, .bool g.u, .int .i64 g.e, .int .i64 g.s, .int .i64 g.a, .string g.b] 27)).drew)) := ((Below.refl _ _).alloc (Nat.le_refl _) _).drew
    have HX2 : Hid (∀ j u, (rows [g])[j]? = some u → ((w1.alloc (Obj.cells #[Value.int .i64 g.c, .bool g.u, .int .i64 g.e, .int .i64 g.s, .int .i64 g.a, .string g.b] 27)).drew).cell? ((⟨w1.heap.size, 0, none⟩ : Addr).add j) = some u) := fun j u hu => by
      have ha : (⟨w1.heap.size, 0, none⟩ : Addr).add j = ⟨w1.heap.size, j, none⟩ := by unfold Addr.add; split <;> simp_all
      rw [ha]
      show (w1.alloc _).cell? _ = _
      rw [cell_of_row _ w1.heap.size j _ 27 (0, 0) (World.alloc_heap_new w1 _)]
      simpa [rows, G.cells] using hu
    have HX3 : Hid (∀ u ∈ rows [g], u.oneCell' = true) := fun u hu => by simp [rows, G.cells] at hu; rcases hu with rfl | rfl | rfl | rfl | rfl | rfl <;> rfl
    have HX4 : Hid (l.length + 1 ≤ maxLen) := by show _ ≤ _; unfold maxLen; omega
    have HX5 : Hid ((l.length + 1) * 56 ≤ 140737488355328) := by show _ ≤ _; omega
    have HX6 : Hid (base ≤ ((w1.alloc (Obj.cells #[Value.int .i64 g.c, .bool g.u, .int .i64 g.e, .int .i64 g.s, .int .i64 g.a, .string g.b] 27)).drew).heap.size) := by show base ≤ (w1.alloc _).heap.size; simp; omega
    clear hX X
    go_region_law (refine step_append_lies _ rfl (.tmp 24) (.tmp 26) 22 rfl base 27 i0 _ 6 56 Try.underlying22 hi hz0 hz1 hz2 rfl (by decide) v l.length (rows l) (by simp [Act.eval]) (HO.out _ HX1.out) ⟨w1.heap.size, 0, none⟩ 1 1 (rows [g]) (by simp [Act.eval]) rfl HX2.out HX3.out (by decide) HX4.out HX5.out HX6.out _ rfl ?_; intro g2 cap2 w2 hown2 hgrow2 hat2 hlt2; have hbx2 := (hbx.out _ HX1.out).kept hgrow2 ((hbx.out _ HX1.out).not_row (by decide) (HO.out _ HX1.out)); have hc2 := hbx2.cell; have hf2 := hbx2.frozen; have HG := Lib.hid hgrow2; have HW := Lib.hid hown2; have HA := Lib.hid hat2; clear hgrow2 hown2 hat2 hlt2)
    all_goals go_wp2
    all_goals go_ret
    all_goals
      refine ⟨congrArg (fun z => Ending.returned (Value.int .i64 z)) H.out.symm, ?_⟩
      rw [H2.out]
      exact rput_close hN HW1.out HX1.out hbx2 HG.out HA.out HW.out rfl


/-- A row may be anywhere above the new base. -/
theorem ownsRow_base {W : World} {base base' e size n : Nat} {v : Value} {xs : List Value} (h : W.ownsRow base e size v n xs) (hv : ∀ k, v.ownBlock = some k → base' ≤ k) : W.ownsRow base' e size v n xs := by
  refine ⟨h.1, ?_⟩
  rcases h.2 with hn | ⟨g, cap, cur, rfl, hb, rest⟩
  · exact .inl hn
  · exact .inr ⟨g, cap, cur, rfl, hv g rfl, rest⟩

theorem drop_keep {w w2 : World} {o : Obj} {n c : Nat} (h : (w.alloc o).grownBy w2 (Value.slice (some ⟨w.heap.size, 0, none⟩) n c).ownBlock) : ∀ j, j < w.heap.size → w2.heap[j]? = w.heap[j]? := fun j hj =>
  (h.block j (by simp; omega) (by simp [Value.ownBlock]; omega)).trans (Below.heap_alloc w _ j hj)
theorem drop_size {w w2 : World} {o : Obj} {r : Option Nat} (h : (w.alloc o).grownBy w2 r) : w.heap.size ≤ w2.heap.size := Nat.le_trans (by simp) h.size

theorem drop_keep2 {w w2 w3 : World} {n : Nat} {v2 : Value} {xs : List Value} (h2 : ∀ j, j < w.heap.size → w2.heap[j]? = w.heap[j]?) (hs : w.heap.size ≤ w2.heap.size) (ho : w2.ownsRow w.heap.size 27 6 v2 n xs) (h : w2.grownBy w3 v2.ownBlock) : ∀ j, j < w.heap.size → w3.heap[j]? = w.heap[j]? := fun j hj =>
  (h.block j (by omega) (fun e => by have := (ho.lt j e.symm).1; omega)).trans (h2 j hj)

set_option maxHeartbeats 2000000 in
set_option maxRecDepth 100000 in
theorem rdrop_any (base b g cap : Nat) (l : List G) (k : Nat) (w : World) (hN : RAt base w b (.slice (some ⟨g, 0, none⟩) l.length cap) l) (hk : k < l.length) (hl : l.length ≤ 1000000) :
    Calls Try.prog 29 #[.pointer (some ⟨b, 0, none⟩), .int .i64 k] w fun e w' => e = .returned (.tuple #[]) ∧ RPost base w b (.slice (some ⟨g, 0, none⟩) l.length cap) (l.eraseIdx k) w' := by
  have hrow := hN.row
  have hcb := hN.cell
  have hfb := hN.frozen
  obtain ⟨A, cap', hv, hA, hc1, hc2⟩ := row_shape hN.row
  simp only [Value.slice.injEq] at hv
  obtain ⟨hA1, _, hA3⟩ := hv
  subst hA1 hA3
  unfold maxLen at hc2
  have HN := Lib.hid hN
  have HR := Lib.hid hrow
  clear hN hrow hA
  obtain ⟨n, hn⟩ : ∃ n, n = l.length := ⟨_, rfl⟩
  rw [← hn] at hcb hc1 hl hk
  have Hn := Lib.hid hn
  clear hn
  obtain ⟨i0, hi0, hz0, hz1, hz2⟩ := info27all
  have hlb : b < w.heap.size := HN.out.lt
  have hlg : g < w.heap.size := (HR.out.lt g rfl).2
  have hc0 : ∀ j y, (rows (l.take k))[j]? = some y → (w.alloc (.cells #[] 27)).cell? ((⟨g, 0, none⟩ : Addr).add j) = some y := fun j y hy => by
    have hadd : (⟨g, 0, none⟩ : Addr).add j = ⟨g, j, none⟩ := by unfold Addr.add; split <;> simp_all
    rw [hadd, ((Below.refl _ w).alloc (Nat.le_refl _) _).cell (p := ⟨g, j, none⟩) hlg, ← hadd]
    refine HR.out.cells (g := g) rfl j y ?_
    rw [← rows_take] at hy
    rw [List.getElem?_take] at hy
    split at hy
    · exact hy
    · cases hy
  have HC0 := Lib.hid hc0
  have HL0 : Hid ((rows (l.take k)).length = k * 6) := by
    show _ = _
    rw [rows_length, List.length_take, ← Hn.out, Nat.min_eq_left (by omega)]
  have HO0 : Hid ((w.alloc (.cells #[] 27)).ownsRow w.heap.size 27 6 (.slice (some ⟨w.heap.size, 0, none⟩) 0 0) 0 []) :=
    ⟨rfl, .inr ⟨_, 0, #[], rfl, Nat.le_refl _, World.alloc_heap_new w _, Nat.le_refl _, by simp [maxLen], rfl, rfl⟩⟩
  have HZ1 : Hid (w.heap.size ≤ (w.alloc (.cells #[] 27)).heap.size) := by show _ ≤ _; simp
  have H1 := Lib.hid (rows_one (l.take k))
  clear hc0
  have HL1 : Hid ((rows (l.drop (k + 1))).length = (n - (k + 1)) * 6) := by
    show _ = _
    rw [rows_length, List.length_drop, ← Hn.out]
  have H2 := Lib.hid (rows_one (l.drop (k + 1)))
  obtain ⟨ad, had, HC1⟩ : ∃ ad : Addr, (if cap = k + 1 then some (⟨g, 0, none⟩ : Addr) else some ⟨g, (k + 1) * 6, none⟩) = some ad ∧ Hid (∀ W : World, (∀ j, j < w.heap.size → W.heap[j]? = w.heap[j]?) → ∀ j y, (rows (l.drop (k + 1)))[j]? = some y → W.cell? (ad.add j) = some y) := by
    by_cases hcap : cap = k + 1
    · refine ⟨_, if_pos hcap, fun W hW j y hy => ?_⟩
      rw [List.drop_of_length_le (by have := Hn.out; omega)] at hy
      simp [rows] at hy
    · refine ⟨_, if_neg hcap, fun W hW j y hy => ?_⟩
      have hadd : ∀ o j, (⟨g, o, none⟩ : Addr).add j = ⟨g, o + j, none⟩ := fun o j => by unfold Addr.add; split <;> simp_all
      rw [hadd, World.cell?_of_block (a := ⟨g, (k + 1) * 6 + j, none⟩) (hW g hlg)]
      have := HR.out.cells (g := g) rfl ((k + 1) * 6 + j) y (by rw [← rows_drop, List.getElem?_drop] at hy; exact hy)
      rwa [hadd, Nat.zero_add] at this
  have HAD := Lib.hid had
  clear had
  go_enter Try.func29, Try.ntmps29
  go_wp2_with (first | (at_builtin; refine wpList_append_own _ rfl (.tmp 5) (.tmp 11) 22 rfl w.heap.size 27 i0 _ 6 56 Try.underlying22 hi0 hz0 hz1 hz2 rfl (by decide) _ 0 [] rfl HO0.out ⟨g, 0, none⟩ k cap (rows (l.take k)) rfl HL0.out HC0.out H1.out (by unfold maxLen; omega) (by omega) HZ1.out ?_; intro v2 w2 hown2 hgrow2 _; have hkeep := Lib.hid (drop_keep hgrow2); have hcb2 := (World.cell?_of_block (a := ⟨b, 0, none⟩) (hkeep.out b hlb)).trans hcb; have hsz2 : w.heap.size ≤ w2.heap.size := (drop_size hgrow2); have hlb2 : b < w2.heap.size := Nat.lt_of_lt_of_le hlb hsz2; have HG2 := Lib.hid hgrow2; have HO2 := Lib.hid hown2; have HC2 := Lib.hid (HC1.out _ hkeep.out); clear hgrow2 hown2) | (at_builtin; go_loud (refine wpList_append_own _ rfl (.tmp 14) (.tmp 21) 22 rfl w.heap.size 27 i0 _ 6 56 Try.underlying22 hi0 hz0 hz1 hz2 rfl (by decide) v2 (0 + k) ([] ++ rows (l.take k)) rfl HO2.out ad (n - (k + 1)) (cap - (k + 1)) (rows (l.drop (k + 1))) (congrArg (fun z => Value.slice z (n - (k + 1)) (cap - (k + 1))) HAD.out) HL1.out HC2.out H2.out (by unfold maxLen; omega) (by omega) hsz2 ?_); intro v3 w3 hown3 hgrow3 _; obtain ⟨A3, c3, rfl, _, _, _⟩ := row_shape hown3; rw [Nat.zero_add, List.nil_append] at hown3; have hkeep3 := Lib.hid (drop_keep2 hkeep.out hsz2 HO2.out hgrow3); have hcb3 := (World.cell?_of_block (a := ⟨b, 0, none⟩) (hkeep3.out b hlb)).trans hcb; have hsz3 : w2.heap.size ≤ w3.heap.size := hgrow3.size; have hlb3 : b < w3.heap.size := Nat.lt_of_lt_of_le hlb2 hsz3; have hfb3 := (World.frozen?_of_block (a := ⟨b, 0, none⟩) (hkeep3.out b hlb)).trans hfb; have HG3 := Lib.hid hgrow3; have HO3 := Lib.hid hown3; clear hgrow3 hown3))
  all_goals
    go_end0
    have hne : b ≠ w.heap.size := by omega
    have hv3 : ∀ j, (Value.slice A3 (k + (n - (k + 1))) c3).ownBlock = some j → w.heap.size ≤ j := fun j hj => (HO3.out.lt j hj).1
    refine ⟨rfl, _, ⟨HN.out.le, ?_, ?_⟩, ⟨?_, ?_, ?_, ?_, ?_⟩, .inr hv3⟩
    · have hb3 : Boxed w3 b 48 (.slice (some ⟨g, 0, none⟩) l.length cap) := (hkeep3.out b hlb).trans HN.out.box
      exact hb3.set _
    · have hh := ownsRow_base HO3.out (fun j hj => Nat.le_trans HN.out.le (Nat.le_trans (Nat.le_of_lt hlb) (hv3 j hj)))
      have hh2 := ownsRow_same (W' := w3.setCell ⟨b, 0, none⟩ (Value.slice A3 (k + (n - (k + 1))) c3)) hh (fun j hj => Below.heap_setCell _ _ _ _ (fun (e : j = b) => by have := hv3 j hj; omega))
      have he : l.eraseIdx k = l.take k ++ l.drop (k + 1) := List.eraseIdx_eq_take_drop_succ l k
      rw [he, rows_append]
      have hn2 : (l.take k ++ l.drop (k + 1)).length = k + (n - (k + 1)) := by
        rw [List.length_append, List.length_take, List.length_drop, ← Hn.out, Nat.min_eq_left (by omega)]
      rw [hn2]
      exact hh2
    · exact HG3.out.os.trans HG2.out.os
    · exact HG3.out.tape.trans HG2.out.tape
    · exact HG3.out.output.trans HG2.out.output
    · exact Nat.le_trans hsz2 (Nat.le_trans hsz3 (by simp [World.setCell]))
    · intro j hj hjb _
      rw [Below.heap_setCell _ _ _ _ hjb]
      exact hkeep3.out j hj
end Go.Proofs.Ytgfklingekiflaa
