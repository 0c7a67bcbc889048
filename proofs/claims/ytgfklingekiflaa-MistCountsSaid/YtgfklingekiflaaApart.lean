/- The walk of MistApart: at every list of datagrams and every two numbers it returns true. -/
import Derived.Deep.RegionLaw
import Derived.Deep.LoopGhost
import Derived.BigRegion
import Derived.Test.YtgfklingekiflaaOrder
import Derived.Test.YtgfklingekiflaaWays
namespace Go.Proofs.Ytgfklingekiflaa
open Go.RowKit Go.Shelf
set_option linter.unusedSimpArgs false

theorem third_range (c : Int) : 1 ≤ wrap64 (1 + wrap64 ((IntKind.u64.wrap c).tmod 3)) ∧ wrap64 (1 + wrap64 ((IntKind.u64.wrap c).tmod 3)) ≤ 3 := by
  have h0 : 0 ≤ IntKind.u64.wrap c := wrap_u64_nonneg c
  rw [Int.tmod_eq_emod_of_nonneg h0]
  have h1 : 0 ≤ (IntKind.u64.wrap c) % 3 := Int.emod_nonneg _ (by decide)
  have h2 : (IntKind.u64.wrap c) % 3 < 3 := Int.emod_lt_of_pos _ (by decide)
  generalize (IntKind.u64.wrap c) % 3 = d at *
  unfold wrap64
  omega

/-! ### A net and a slice of the call's own -/
structure St1 (w0 W : World) (b1 : Nat) (v1 : Value) (l1 : List G) (vs : Value) (ls : List G) : Prop where
  n1 : NetAt w0.heap.size W b1 v1 l1
  s : W.ownsRow w0.heap.size 27 6 vs ls.length (rows ls)
  below : Below w0.heap.size w0 W
  v1s : ∀ k, v1.ownBlock = some k → vs.ownBlock ≠ some k

section
variable {w0 W W' : World} {b1 : Nat} {v1 vs : Value} {l1 ls l' : List G}

theorem St1.step (h : St1 w0 W b1 v1 l1 vs ls) (hb : Below W.heap.size W W') : St1 w0 W' b1 v1 l1 vs ls :=
  ⟨h.n1.below hb, ownsRow_same h.s (fun k hk => hb.block k (h.s.lt k hk).2), h.below.trans (hb.mono h.below.size), h.v1s⟩

theorem St1.net1 (h : St1 w0 W b1 v1 l1 vs ls) (hp : NetPost w0.heap.size W b1 v1 l' W') : ∃ v', St1 w0 W' b1 v' l' vs ls := by
  have hb := NetPost.below h.n1 hp
  obtain ⟨v', g1, g2, g3⟩ := hp
  refine ⟨v', g1, ownsRow_same h.s (fun k hk => g2.block k (h.s.lt k hk).2 (fun e => h.n1.box_ne h.s (e ▸ hk)) (fun e => h.v1s k e hk)), h.below.trans hb, fun k e e2 => ?_⟩
  rcases g3 with g3 | g3
  · exact h.v1s k (g3 ▸ e) e2
  · have := g3 k e; have := (h.s.lt k e2).2; omega

theorem St1.app (h : St1 w0 W b1 v1 l1 vs ls) {X : World} {g cap n : Nat} {x : G} (hX : Below W.heap.size W X) (hr : W'.ownsRow w0.heap.size 27 6 (.slice (some ⟨g, 0, none⟩) n cap) n (rows ls ++ rows [x])) (hg : X.grownBy W' vs.ownBlock) (hat : vs.ownBlock = some g ∨ g = X.heap.size) (hn : n = ls.length + 1) :
    St1 w0 W' b1 v1 l1 (.slice (some ⟨g, 0, none⟩) n cap) (ls ++ [x]) := by
  subst hn
  have hX' := h.step hX
  have keep : ∀ k, k < X.heap.size → vs.ownBlock ≠ some k → W'.heap[k]? = X.heap[k]? := fun k hk hne => hg.block k hk (fun e => hne e.symm)
  have n1 := hX'.n1.same (keep b1 hX'.n1.lt (hX'.n1.box_ne hX'.s)) (fun k hk => keep k (hX'.n1.row.lt k hk).2 (h.v1s k hk))
  refine ⟨n1, by simpa [rows] using hr, hX'.below.trans ?_, fun k e e2 => ?_⟩
  · exact ⟨hg.os, hg.tape, hg.output, hg.size, fun k hk => keep k (Nat.lt_of_lt_of_le hk hX'.below.size) (fun e => by have := (hX'.s.lt k e).1; omega)⟩
  · have e2 : g = k := by simpa [Value.ownBlock] using e2
    subst e2
    rcases hat with e3 | e3
    · exact h.v1s g e e3
    · have := (hX'.n1.row.lt g e).2; omega
end

theorem St1.start {w w1 : World} (hb : Below w.heap.size w w1) : St1 w ((w1.alloc (.cells #[.slice none 0 0] 53)).alloc (.cells #[] 27)) w1.heap.size (.slice none 0 0) [] (.slice (some ⟨w1.heap.size + 1, 0, none⟩) 0 0) [] := by
  have hsz := hb.size
  have x1 := World.alloc_heap_new w1 (.cells #[.slice none 0 0] 53)
  have x3 := World.alloc_heap_new (w1.alloc (.cells #[.slice none 0 0] 53)) (.cells #[] 27)
  simp only [World.size_alloc] at x3
  have y1 : ((w1.alloc (.cells #[.slice none 0 0] 53)).alloc (.cells #[] 27)).heap[w1.heap.size]? = some (.cells #[.slice none 0 0] 53) := by
    rw [Below.heap_alloc _ _ _ (by simp)]; exact x1
  refine ⟨⟨hsz, y1, World.ownsRow_nil _ _ _ _⟩, ⟨rfl, .inr ⟨_, 0, #[], rfl, by omega, x3, Nat.le_refl _, by simp [maxLen], rfl, rfl⟩⟩, ?_, ?_⟩
  · exact hb.trans (((Below.refl _ w1).alloc (Nat.le_refl _) _).alloc (by simp) _ |>.mono hsz)
  · intro k h; simp [Value.ownBlock] at h

theorem rem_range (c : Int) {n : Nat} (h0 : 0 < n) (h : n ≤ 1000000) : ∃ k : Nat, wrap64 ((IntKind.u64.wrap c).tmod (n : Int)) = (k : Int) ∧ k < n := by
  have h0' : 0 ≤ IntKind.u64.wrap c := wrap_u64_nonneg c
  rw [Int.tmod_eq_emod_of_nonneg h0']
  have h1 : 0 ≤ (IntKind.u64.wrap c) % (n : Int) := Int.emod_nonneg _ (by omega)
  have h2 : (IntKind.u64.wrap c) % (n : Int) < (n : Int) := Int.emod_lt_of_pos _ (by omega)
  generalize (IntKind.u64.wrap c) % (n : Int) = d at *
  refine ⟨d.toNat, ?_, by omega⟩
  unfold wrap64
  omega

/-- What is done on other ways changes nothing on the way of 2, up; nothing of 3 is there behind its clear. -/
theorem chain (l : List G) (t : Int) :
    wl ((pullL (copyL (pullL l (plOf l 1 true t)) 1 false t) (plOf (copyL (pullL l (plOf l 1 true t)) 1 false t) 2 false t)).filter (notOf 3)) 2 true = wl l 2 true ∧
    wl ((pullL (copyL (pullL l (plOf l 1 true t)) 1 false t) (plOf (copyL (pullL l (plOf l 1 true t)) 1 false t) 2 false t)).filter (notOf 3)) 3 true = [] ∧
    ((pullL (copyL (pullL l (plOf l 1 true t)) 1 false t) (plOf (copyL (pullL l (plOf l 1 true t)) 1 false t) 2 false t)).filter (notOf 3)).length ≤ l.length + 1 := by
  refine ⟨?_, ?_, ?_⟩
  · rw [clear_way, if_neg (by decide), pull_other _ _ _ _ _ _ (.inr (by decide)), copy_other _ _ _ _ _ _ (.inl (by decide)), pull_other _ _ _ _ _ _ (.inl (by decide))]
  · rw [clear_way, if_pos rfl]
  · have h1 := pullL_length_le l (plOf l 1 true t)
    have h2 := copyL_length_le (pullL l (plOf l 1 true t)) 1 false t
    have h3 := pullL_length_le (copyL (pullL l (plOf l 1 true t)) 1 false t) (plOf (copyL (pullL l (plOf l 1 true t)) 1 false t) 2 false t)
    have h4 := List.length_filter_le (notOf 3) (pullL (copyL (pullL l (plOf l 1 true t)) 1 false t) (plOf (copyL (pullL l (plOf l 1 true t)) 1 false t) 2 false t))
    omega

theorem copy_ok {l ws : List G} {k : Nat} {x : G} (h : wl l 2 true = ws) (hk : ws[k]? = some x) (hlen : ws.length < 64) : copyB l 2 true (k : Int) = true ∧ copyL l 2 true (k : Int) = l ++ [x] := by
  have hp : pullG l (plOf l 2 true (k : Int)) = some x := by rw [pull_way, if_pos (by omega), h]; simpa using hk
  have hw := isWay_iff.1 (way_of_wl (h ▸ List.mem_of_getElem? hk : x ∈ wl l 2 true)).2
  have hc : putCode l x = 0 := putCode_ok (by omega) (by omega) (by rw [hw.1, hw.2, h]; exact hlen)
  unfold copyB copyL
  rw [hp]
  simp [hc, putList]

set_option maxHeartbeats 8000000 in
set_option maxRecDepth 100000 in
theorem apart_walk (w : World) (a : Option Addr) (len cap : Nat) (gs : List G) (at_ twice : Int) (hin : GramsIn w a len gs) (ha : (Lit.int .i64 at_).wf = true) (ht : (Lit.int .i64 twice).wf = true) :
    Calls Try.prog 4 #[.slice a len cap, .int .i64 at_, .int .i64 twice] w fun e w' => e = .returned (.bool true) ∧ Below w.heap.size w w' := by
  have hlen := hin.length
  have hsmall := hin.small
  have hat2 := int_of_wf ha
  have htw := int_of_wf ht
  clear ha ht
  go_enter Try.func4, Try.ntmps4
  go_wp2_with fail
  refine (awake_any _).mono ?_
  rintro e w1 ⟨rfl, hb1⟩
  go_wp2_with fail
  refine (new_any _).mono ?_
  rintro e w2 ⟨rfl, rfl⟩
  go_wp2_with fail
  have hst := St1.start hb1
  generalize ((w1.alloc (.cells #[.slice none 0 0] 53)).alloc (.cells #[] 27)) = W at *
  generalize w1.heap.size + 1 = B3 at *
  generalize w1.heap.size = b1 at *
  clear hb1
  obtain ⟨i0, hi0, hz0, hz1, hz2⟩ := info27all
  go_loopw [8, 9] (fun sv iv wr => ∃ (i : Nat) (v1 : Value) (l : List G), iv = .int .i64 i ∧ i ≤ len ∧ i ≤ 60 ∧ l.length = i ∧ Hid (St1 w wr b1 v1 l sv (wl l 2 true)) ∧ Hid (∀ g ∈ l, 1 ≤ g.c ∧ g.c ≤ 3)) (fun _ iv _ => 60 - (intOf iv).toNat)
  case atStart => exact ⟨0, _, [], rfl, by omega, by omega, by simp, hst, by intro g hg; cases hg⟩
  case round =>
    obtain ⟨i, v1, l, rfl, hil, hi2, hll, hs, hcl⟩ := hrel
    by_cases hlt : i < len ∧ i < 60
    · obtain ⟨hlt, hlt2⟩ := hlt
      obtain ⟨x, hx⟩ : ∃ x, gs[i]? = some x := ⟨gs[i], by simp⟩
      obtain ⟨b, off, rfl, hbw, c0, c1, c2, c3, c4, c5⟩ := hin.at hs.out.below hx
      have hxok := (hin.ok x (List.mem_of_getElem? hx)).1
      by_cases h12 : 4096 < x.b.size
      · go_wp2_with fail
        go_ret
        exact ⟨rfl, hs.out.below⟩
      · go_wp2_with fail
        obtain ⟨hd1, hd3⟩ := third_range x.c
        generalize wrap64 (1 + wrap64 ((IntKind.u64.wrap x.c).tmod 3)) = d at *
        have HX := Lib.hid hx
        have hal : ∀ o, Below wr.heap.size wr (wr.alloc o) := fun o => (Below.refl _ _).alloc (Nat.le_refl _) _
        have hcode : putCode l ⟨d, x.u, x.e, x.s, x.a, x.b⟩ = 0 := putCode_ok hd1 (by show d ≤ 8; omega) (by have := wl_length_le l d x.u; show (wl l d x.u).length < 64; omega)
        have hpl : putList l ⟨d, x.u, x.e, x.s, x.a, x.b⟩ = l ++ [⟨d, x.u, x.e, x.s, x.a, x.b⟩] := by simp [putList, hcode]
        refine (put_any _ _ _ l ⟨d, x.u, x.e, x.s, x.a, x.b⟩ _ (hs.out.step (hal _)).n1 (by omega)).mono ?_
        rintro e w4 ⟨rfl, hp⟩
        rw [hpl] at hp
        rw [hcode]
        obtain ⟨d2, hl2⟩ := hp.there hs.out.n1
        obtain ⟨v1', hs1⟩ := (hs.out.step (hal _)).net1 hp
        have e0 := cell_of_row w4 _ 0 _ _ _ d2
        have e1 := cell_of_row w4 _ 1 _ _ _ d2
        have e2 := cell_of_row w4 _ 2 _ _ _ d2
        have e3 := cell_of_row w4 _ 3 _ _ _ d2
        have e4 := cell_of_row w4 _ 4 _ _ _ d2
        have e5 := cell_of_row w4 _ 5 _ _ _ d2
        have HS1 := Lib.hid hs1
        have hcl2 : Hid (∀ g ∈ l ++ [(⟨d, x.u, x.e, x.s, x.a, x.b⟩ : G)], 1 ≤ g.c ∧ g.c ≤ 3) := by
          intro g hg
          rcases List.mem_append.1 hg with h | h
          · exact hcl.out g h
          · simp at h; subst h; exact ⟨hd1, hd3⟩
        have hwp := Lib.hid (wl_put l ⟨d, x.u, x.e, x.s, x.a, x.b⟩ 2 true)
        clear hp d2 hs1 hx hcode hpl hal
        have go_on : ∀ (W' : World), (isWay 2 true (⟨d, x.u, x.e, x.s, x.a, x.b⟩ : G)) = false → Hid (wl (l ++ [(⟨d, x.u, x.e, x.s, x.a, x.b⟩ : G)]) 2 true = wl l 2 true) := fun _ h => by
          have := hwp.out
          rw [h] at this
          show wl _ 2 true = _
          simpa using this
        by_cases hd2 : d = 2
        · subst hd2
          cases hu : x.u with
          | true =>
            rw [hu] at e1 HS1 hcl2 hwp
            have hw2 : Hid (wl (l ++ [(⟨2, true, x.e, x.s, x.a, x.b⟩ : G)]) 2 true = wl l 2 true ++ [(⟨2, true, x.e, x.s, x.a, x.b⟩ : G)]) := by
              have := hwp.out
              show wl _ 2 true = _
              simpa [isWay] using this
            clear go_on
            obtain ⟨X, hX⟩ : ∃ X, X = w4.alloc (.cells #[.int .i64 2, .bool true, .int .i64 x.e, .int .i64 x.s, .int .i64 x.a, .string x.b] 27) := ⟨_, rfl⟩
            have hXB : Below w4.heap.size w4 X := by rw [hX]; exact (Below.refl _ _).alloc (Nat.le_refl _) _
            have hXb : X.heap[w4.heap.size]? = some (.cells #[.int .i64 2, .bool true, .int .i64 x.e, .int .i64 x.s, .int .i64 x.a, .string x.b] 27 (0, 0)) := by rw [hX]; exact World.alloc_heap_new _ _
            have hown := Lib.hid (HS1.out.step hXB).s
            have hnw : Hid (∀ j y, (rows [(⟨2, true, x.e, x.s, x.a, x.b⟩ : G)])[j]? = some y → X.cell? ((⟨w4.heap.size, 0, none⟩ : Addr).add j) = some y) := fun j y hy => World.news_of_block hXb j y (by simpa [rows, G.cells] using hy)
            have hbase : Hid (w.heap.size ≤ X.heap.size) := Nat.le_trans HS1.out.below.size hXB.size
            rw [hX] at hown hnw hbase
            have HX2 := Lib.hid hX
            have HXB := Lib.hid hXB
            have h1c := Lib.hid (rows_one [(⟨2, true, x.e, x.s, x.a, x.b⟩ : G)])
            have hwl := wl_length_le l 2 true
            clear hX hXB hXb hu
            go_wp2_with (at_builtin; refine wpList_append_lies _ rfl (.tmp 58) (.tmp 60) 22 rfl w.heap.size 27 i0 _ 6 56 Try.underlying22 hi0 hz0 hz1 hz2 rfl (by decide) u8 (wl l 2 true).length (rows (wl l 2 true)) rfl hown.out ⟨w4.heap.size, 0, none⟩ 1 1 (rows [(⟨2, true, x.e, x.s, x.a, x.b⟩ : G)]) rfl rfl hnw.out h1c.out (by decide) (by unfold maxLen; omega) (by omega) hbase.out _ rfl ?_; intro g2 cap2 w6 hown2 hgrow2 hat3 hlt2)
            have hat4 : u8.ownBlock = some g2 ∨ g2 = X.heap.size := by rw [HX2.out]; exact hat3
            have hs3 := HS1.out.app HXB.out hown2 (by rw [HX2.out]; exact hgrow2) hat4 rfl
            have HS3 := Lib.hid hs3
            clear hs3 hat3 hat4 hown2 hgrow2 hlt2
            go_roundw
            case rel => exact ⟨i + 1, _, _, by simp, by omega, by omega, by simp; omega, by rw [hw2.out]; exact HS3.out, hcl2⟩
            case measure => simp [intOf]; omega
          | false =>
            rw [hu] at e1 HS1 hcl2 hwp
            have hw2 : Hid (wl (l ++ [(⟨2, false, x.e, x.s, x.a, x.b⟩ : G)]) 2 true = wl l 2 true) := by
              have := hwp.out
              show wl _ 2 true = _
              simpa [isWay] using this
            clear go_on hwp
            go_wp2
            go_roundw
            case rel => exact ⟨i + 1, _, _, by simp, by omega, by omega, by simp; omega, by rw [hw2.out]; exact HS1.out, hcl2⟩
            case measure => simp [intOf]; omega
        · have hd2' : (d == 2) = false := by simpa using hd2
          have hw2 := go_on w4 (by simp [isWay, hd2'])
          clear hwp hd2
          go_wp2
          go_roundw
          case rel => exact ⟨i + 1, _, _, by simp, by omega, by omega, by simp; omega, by rw [hw2.out]; exact HS1.out, hcl2⟩
          case measure => simp [intOf]; omega
    · obtain ⟨A, cap', rfl, hA, hc1, hc2⟩ := row_shape hs.out.s
      unfold maxLen at hc2
      have hwl := wl_length_le l 2 true
      have hcs : (i < len ∧ i = 60) ∨ len ≤ i := by omega
      have hch := Lib.hid (chain l at_)
      have hl1 := pullL_length_le l (plOf l 1 true at_)
      have hl2 := copyL_length_le (pullL l (plOf l 1 true at_)) 1 false at_
      have hl3 := pullL_length_le (copyL (pullL l (plOf l 1 true at_)) 1 false at_) (plOf (copyL (pullL l (plOf l 1 true at_)) 1 false at_) 2 false at_)
      clear hlt hcl
      rcases hcs with ⟨hq1, hq2⟩ | hq1
      all_goals
        go_wp2_with fail
        refine (pick_any _ _ _ _ 1 true at_ _ hat2.1 hat2.2 hs.out.n1 (by omega)).mono ?_
        intro e w4 hpp
        obtain ⟨x4, y4, _, _, rfl, hp⟩ := pullpost_ret hpp
        clear hpp
        obtain ⟨v4, hs4⟩ := hs.out.net1 hp
        have HS4 := Lib.hid hs4
        clear hp hs4
        go_wp2_with fail
        refine (copy_any _ _ _ _ 1 false at_ _ hat2.1 hat2.2 HS4.out.n1 (by omega)).mono ?_
        rintro e w5 ⟨rfl, hp⟩
        obtain ⟨v5, hs5⟩ := HS4.out.net1 hp
        have HS5 := Lib.hid hs5
        clear hp hs5
        go_wp2_with fail
        refine (pick_any _ _ _ _ 2 false at_ _ hat2.1 hat2.2 HS5.out.n1 (by omega)).mono ?_
        intro e w6 hpp
        obtain ⟨x6, y6, _, _, rfl, hp⟩ := pullpost_ret hpp
        clear hpp
        obtain ⟨v6, hs6⟩ := HS5.out.net1 hp
        have HS6 := Lib.hid hs6
        clear hp hs6
        go_wp2_with fail
        refine (clear_any _ _ _ _ 3 _ HS6.out.n1).mono ?_
        rintro e w7 ⟨rfl, hp⟩
        obtain ⟨v7, hs7⟩ := HS6.out.net1 hp
        clear hp
        obtain ⟨lD, hlD⟩ : ∃ lD, lD = (pullL (copyL (pullL l (plOf l 1 true at_)) 1 false at_) (plOf (copyL (pullL l (plOf l 1 true at_)) 1 false at_) 2 false at_)).filter (notOf 3) := ⟨_, rfl⟩
        have hD := hch.out
        rw [← hlD] at hs7 hD
        generalize clearN (pullL (copyL (pullL l (plOf l 1 true at_)) 1 false at_) (plOf (copyL (pullL l (plOf l 1 true at_)) 1 false at_) 2 false at_)) 3 = cn
        clear hlD hch
        have HD := Lib.hid hD
        have HS7 := Lib.hid hs7
        clear hD hs7
        generalize hws : wl l 2 true = ws at *
        have hwsl : ws.length ≤ 60 := by omega
        clear hws hs
        by_cases hw0 : 0 < ws.length
        · obtain ⟨g, rfl⟩ := hA hw0
          go_wp2_with fail
          obtain ⟨k, hk, hkl⟩ := rem_range twice hw0 (by omega)
          rw [hk]
          clear hk
          obtain ⟨x, hx⟩ : ∃ x, ws[k]? = some x := ⟨ws[k], by simp⟩
          have hco := copy_ok HD.out.1 hx (by omega)
          have hDl := HD.out.2.2
          refine (copy_any _ _ _ _ 2 true (k : Int) _ (by omega) (by omega) HS7.out.n1 (by omega)).mono ?_
          rintro e w8 ⟨rfl, hp⟩
          rw [hco.1]
          rw [hco.2] at hp
          obtain ⟨v8, hs8⟩ := HS7.out.net1 hp
          obtain ⟨c0, c1, c2, c3, c4, c5⟩ := row_cells hs8.s hx
          have hgl : g < w8.heap.size := (hs8.s.lt g rfl).2
          have hxw : isWay 2 true x = true := (way_of_wl (HD.out.1 ▸ List.mem_of_getElem? hx : x ∈ wl lD 2 true)).2
          have hwE : Hid (wl (lD ++ [x]) 2 true = ws ++ [x]) := by
            show wl _ 2 true = _
            rw [wl_put, HD.out.1, hxw]; simp
          have hwE3 : Hid (wl (lD ++ [x]) 3 true = []) := by
            show wl _ 3 true = _
            have : isWay 3 true x = false := by
              have := (isWay_iff.1 hxw).1
              simp [isWay, this]
            rw [wl_put, HD.out.2.1, this]; rfl
          have hlE : (lD ++ [x]).length ≤ 100 := by have := HD.out.2.2; simp; omega
          obtain ⟨X, hX⟩ : ∃ X, X = w8.alloc (.cells #[.int .i64 x.c, .bool x.u, .int .i64 x.e, .int .i64 x.s, .int .i64 x.a, .string x.b] 27) := ⟨_, rfl⟩
          have hXB : Below w8.heap.size w8 X := by rw [hX]; exact (Below.refl _ _).alloc (Nat.le_refl _) _
          have hXb : X.heap[w8.heap.size]? = some (.cells #[.int .i64 x.c, .bool x.u, .int .i64 x.e, .int .i64 x.s, .int .i64 x.a, .string x.b] 27 (0, 0)) := by rw [hX]; exact World.alloc_heap_new _ _
          have hown := Lib.hid (hs8.step hXB).s
          have hnw : Hid (∀ j y, (rows [x])[j]? = some y → X.cell? ((⟨w8.heap.size, 0, none⟩ : Addr).add j) = some y) := fun j y hy => World.news_of_block hXb j y (by simpa [rows, G.cells] using hy)
          have hbase : Hid (w.heap.size ≤ X.heap.size) := Nat.le_trans hs8.below.size hXB.size
          rw [hX] at hown hnw hbase
          have HX2 := Lib.hid hX
          have HXB := Lib.hid hXB
          have h1c := Lib.hid (rows_one [x])
          have HS8 := Lib.hid hs8
          clear hX hXB hXb hco hp hx hs8 hxw hDl
          go_wp2_with (at_builtin; refine wpList_append_lies _ rfl (.tmp 87) (.tmp 92) 22 rfl w.heap.size 27 i0 _ 6 56 Try.underlying22 hi0 hz0 hz1 hz2 rfl (by decide) _ ws.length (rows ws) rfl hown.out ⟨w8.heap.size, 0, none⟩ 1 1 (rows [x]) rfl rfl hnw.out h1c.out (by decide) (by unfold maxLen; omega) (by omega) hbase.out _ rfl ?_; intro g2 cap2 w9 hown2 hgrow2 hat3 hlt2)
          have hat4 : (Value.slice (some ⟨g, 0, none⟩) ws.length cap').ownBlock = some g2 ∨ g2 = X.heap.size := by rw [HX2.out]; exact hat3
          have HSf := Lib.hid (HS8.out.app HXB.out hown2 (by rw [HX2.out]; exact hgrow2) hat4 rfl)
          obtain ⟨n, hn⟩ : ∃ n, n = ws.length + 1 := ⟨_, rfl⟩
          have hcc : ws.length + 1 ≤ cap2 ∧ cap2 ≤ 9223372036854775807 := by
            obtain ⟨A9, c9, hv9, _, h1, h2⟩ := row_shape hown2
            simp only [Value.slice.injEq] at hv9
            obtain ⟨_, _, rfl⟩ := hv9
            unfold maxLen at h2
            exact ⟨h1, by omega⟩
          obtain ⟨h91, h92⟩ := hcc
          rw [← hn] at HSf h91 ⊢
          obtain ⟨fs, hfs⟩ : ∃ fs, fs = ws ++ [x] := ⟨_, rfl⟩
          rw [← hfs] at HSf hwE
          have hfn : n = fs.length := by rw [hfs, hn]; simp
          have hA' : 0 < n → ∃ g, (some (⟨g2, 0, none⟩ : Addr)) = some ⟨g, 0, none⟩ := fun _ => ⟨g2, rfl⟩
          have hwf := hwE
          have hwf3 := hwE3
          have hlf := hlE
          generalize (some (⟨g2, 0, none⟩ : Addr)) = A' at *
          generalize lD ++ [x] = lE at *
          clear hfs hn hown2 hgrow2 hat3 hat4 hlt2 hwE hwE3 hlE HX2 HXB h1c hbase hnw hown HS8 HS7 HD c0 c1 c2 c3 c4 c5
          generalize cap2 = c9 at *
          have HFN := Lib.hid hfn
          clear hfn
          go_loopw [12] (fun jv wr => ∃ (j : Nat) (v9 : Value) (m : List G), jv = .int .i64 j ∧ j ≤ n ∧ Hid (St1 w wr b1 v9 m (.slice A' n c9) fs) ∧ Hid (wl m 2 true = fs.drop j) ∧ Hid (wl m 3 true = []) ∧ m.length ≤ 100) (fun jv _ => n - (intOf jv).toNat)
          case atStart => exact ⟨0, _, _, rfl, by omega, HSf, hwf, hwf3, hlf⟩
          case round =>
            obtain ⟨j, v9, m, rfl, hjn, hS, hm2, hm3, hml⟩ := hrel
            by_cases hlt : j < n
            · obtain ⟨x, hx⟩ : ∃ x, fs[j]? = some x := ⟨fs[j]'(by have := HFN.out; omega), by simp⟩
              obtain ⟨g, rfl⟩ := hA' (by omega)
              have hpw : pullG m (plOf m 2 true 0) = some x := by
                rw [pull_way, if_pos (by omega), hm2.out]
                simpa using hx
              have hps : Hid (wl (pullL m (plOf m 2 true 0)) 2 true = fs.drop (j + 1)) := by
                show wl _ 2 true = _
                rw [pull_same, if_pos (by omega), hm2.out]
                simp
              have hpo : Hid (wl (pullL m (plOf m 2 true 0)) 3 true = []) := by
                show wl _ 3 true = _
                rw [pull_other _ _ _ _ _ _ (.inl (by decide)), hm3.out]
              have hpl := pullL_length_le m (plOf m 2 true 0)
              go_wp2_with fail
              refine (pick_any _ _ _ _ 2 true 0 _ (by decide) (by decide) hS.out.n1 (by omega)).mono ?_
              intro e w10 hpp
              obtain ⟨x2, y2, hx2, hy2, rfl, hp⟩ := pullpost_ret hpp
              clear hpp
              rw [hpw] at hx2 hy2
              obtain rfl : x2 = x := hx2
              obtain rfl : y2 = true := hy2
              obtain ⟨v10, hs10⟩ := hS.out.net1 hp
              rw [HFN.out] at hs10
              obtain ⟨d0, d1, d2, d3, d4, d5⟩ := row_cells hs10.s hx
              rw [← HFN.out] at hs10
              have hgl5 : g < w10.heap.size := (hs10.s.lt g rfl).2
              have HS10 := Lib.hid hs10
              have Hx := Lib.hid hx
              clear hp hs10 hpw hx
              go_wp2_with fail
              go_region
              have hal : Below w10.heap.size w10 ((w10.alloc (.cells #[.int .i64 x2.c, .bool x2.u, .int .i64 x2.e, .int .i64 x2.s, .int .i64 x2.a, .string x2.b] 27)).drew) := ((Below.refl _ _).alloc (Nat.le_refl _) _).drew
              have HS11 := Lib.hid (HS10.out.step hal)
              clear hal
              go_wp2
              go_roundw
              case rel => exact ⟨j + 1, _, _, by simp, by omega, HS11.out, hps, hpo, by omega⟩
              case measure => simp [intOf]; omega
            · obtain rfl : j = n := by omega
              have hc2 : cnt m 2 true = 0 := by rw [cnt_wl, hm2.out]; have := HFN.out; simp; omega
              have hc3 : cnt m 3 true = 0 := by rw [cnt_wl, hm3.out]; rfl
              have HC3 := Lib.hid hc3
              have HC2 := Lib.hid hc2
              clear hc2 hc3
              go_wp2_with fail
              refine (count_any _ _ _ _ 2 true _ hS.out.n1 (by omega)).mono ?_
              rintro e w10 ⟨rfl, hb10⟩
              rw [HC2.out]
              have HS10 := Lib.hid (hS.out.step hb10)
              clear hb10
              go_wp2_with fail
              refine (count_any _ _ _ _ 3 true _ HS10.out.n1 (by omega)).mono ?_
              rintro e w11 ⟨rfl, hb11⟩
              rw [HC3.out]
              have HS11 := Lib.hid (HS10.out.step hb11)
              clear hb11
              go_wp2_with fail
              go_ret
              exact ⟨rfl, HS11.out.below⟩
        · have HSf := HS7
          have hwf := Lib.hid HD.out.1
          have hwf3 := Lib.hid HD.out.2.1
          have hlf : lD.length ≤ 100 := by have := HD.out.2.2; omega
          clear HS7 HD
          go_wp2_with fail
          obtain ⟨n, hfn⟩ : ∃ n, n = ws.length := ⟨_, rfl⟩
          have hA' := hA
          rw [← hfn] at HSf hA' hc1 hw0 hwsl ⊢
          have h91 := hc1
          have h92 := hc2
          generalize hfs : ws = fs at *
          generalize lD = lE at *
          generalize cap' = c9 at *
          clear hA hfs
          generalize A = A' at *
          have HFN := Lib.hid hfn
          clear hfn
          go_loopw [12] (fun jv wr => ∃ (j : Nat) (v9 : Value) (m : List G), jv = .int .i64 j ∧ j ≤ n ∧ Hid (St1 w wr b1 v9 m (.slice A' n c9) fs) ∧ Hid (wl m 2 true = fs.drop j) ∧ Hid (wl m 3 true = []) ∧ m.length ≤ 100) (fun jv _ => n - (intOf jv).toNat)
          case atStart => exact ⟨0, _, _, rfl, by omega, HSf, hwf, hwf3, hlf⟩
          case round =>
            obtain ⟨j, v9, m, rfl, hjn, hS, hm2, hm3, hml⟩ := hrel
            by_cases hlt : j < n
            · exact absurd hlt (by omega)
            · obtain rfl : j = n := by omega
              have hc2 : cnt m 2 true = 0 := by rw [cnt_wl, hm2.out]; have := HFN.out; simp; omega
              have hc3 : cnt m 3 true = 0 := by rw [cnt_wl, hm3.out]; rfl
              have HC3 := Lib.hid hc3
              have HC2 := Lib.hid hc2
              clear hc2 hc3
              go_wp2_with fail
              refine (count_any _ _ _ _ 2 true _ hS.out.n1 (by omega)).mono ?_
              rintro e w10 ⟨rfl, hb10⟩
              rw [HC2.out]
              have HS10 := Lib.hid (hS.out.step hb10)
              clear hb10
              go_wp2_with fail
              refine (count_any _ _ _ _ 3 true _ HS10.out.n1 (by omega)).mono ?_
              rintro e w11 ⟨rfl, hb11⟩
              rw [HC3.out]
              have HS11 := Lib.hid (HS10.out.step hb11)
              clear hb11
              go_wp2_with fail
              go_ret
              exact ⟨rfl, HS11.out.below⟩
end Go.Proofs.Ytgfklingekiflaa
