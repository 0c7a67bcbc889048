/- The walk of MistOrder: at every list of datagrams, every client and every way it returns true. -/
import Derived.Deep.RegionLaw
import Derived.Deep.LoopGhost
import Derived.BigRegion
import Derived.Test.YtgfklingekiflaaArgs
namespace Go.Proofs.Ytgfklingekiflaa
open Go.RowKit Go.Shelf
set_option linter.unusedSimpArgs false

theorem row_in {w0 W : World} {vs : Value} {ls : List G} (h : W.ownsRow w0.heap.size 27 6 vs ls.length (rows ls)) (h0 : 0 < ls.length) : ∃ g cap, vs = .slice (some ⟨g, 0, none⟩) ls.length cap := by
  obtain ⟨A, cap, rfl, hA, _, _⟩ := row_shape h
  obtain ⟨g, rfl⟩ := hA h0
  exact ⟨g, cap, rfl⟩

theorem St.start {w w1 : World} (hb : Below w.heap.size w w1) : St w (((w1.alloc (.cells #[.slice none 0 0] 53)).alloc (.cells #[.slice none 0 0] 53)).alloc (.cells #[] 27)) w1.heap.size (w1.heap.size + 1) (.slice none 0 0) (.slice none 0 0) [] [] (.slice (some ⟨w1.heap.size + 1 + 1, 0, none⟩) 0 0) [] := by
  have hsz := hb.size
  have x1 := World.alloc_heap_new w1 (.cells #[.slice none 0 0] 53)
  have x2 := World.alloc_heap_new (w1.alloc (.cells #[.slice none 0 0] 53)) (.cells #[.slice none 0 0] 53)
  have x3 := World.alloc_heap_new ((w1.alloc (.cells #[.slice none 0 0] 53)).alloc (.cells #[.slice none 0 0] 53)) (.cells #[] 27)
  simp only [World.size_alloc] at x2 x3
  have y1 : (((w1.alloc (.cells #[.slice none 0 0] 53)).alloc (.cells #[.slice none 0 0] 53)).alloc (.cells #[] 27)).heap[w1.heap.size]? = some (.cells #[.slice none 0 0] 53) := by
    rw [Below.heap_alloc _ _ _ (by simp; omega), Below.heap_alloc _ _ _ (by simp)]; exact x1
  have y2 : (((w1.alloc (.cells #[.slice none 0 0] 53)).alloc (.cells #[.slice none 0 0] 53)).alloc (.cells #[] 27)).heap[w1.heap.size + 1]? = some (.cells #[.slice none 0 0] 53) := by
    rw [Below.heap_alloc _ _ _ (by simp)]; exact x2
  refine ⟨⟨hsz, y1, World.ownsRow_nil _ _ _ _⟩, ⟨by omega, y2, World.ownsRow_nil _ _ _ _⟩, ⟨rfl, .inr ⟨_, 0, #[], rfl, by omega, x3, Nat.le_refl _, by simp [maxLen], rfl, rfl⟩⟩, ?_, by omega, ?_, ?_, ?_⟩
  · exact hb.trans ((((Below.refl _ w1).alloc (Nat.le_refl _) _).alloc (by simp) _).alloc (by simp; omega) _ |>.mono hsz)
  all_goals (intro k h; simp [Value.ownBlock] at h)

set_option maxHeartbeats 4000000 in
set_option maxRecDepth 100000 in
theorem order_walk (w : World) (a : Option Addr) (len cap : Nat) (gs : List G) (c : Int) (u : Bool) (hin : GramsIn w a len gs) :
    Calls Try.prog 3 #[.slice a len cap, .int .i64 c, .bool u] w fun e w' => e = .returned (.bool true) ∧ Below w.heap.size w w' := by
  have hlen := hin.length
  have hsmall := hin.small
  go_enter Try.func3, Try.ntmps3
  go_wp2_with fail
  refine (awake_any _).mono ?_
  rintro e w1 ⟨rfl, hb1⟩
  go_wp2_with fail
  refine (new_any _).mono ?_
  rintro e w2 ⟨rfl, rfl⟩
  go_wp2_with fail
  refine (new_any _).mono ?_
  rintro e w3 ⟨rfl, rfl⟩
  go_wp2_with fail
  have hst := St.start hb1
  generalize (((w1.alloc (.cells #[.slice none 0 0] 53)).alloc (.cells #[.slice none 0 0] 53)).alloc (.cells #[] 27)) = W at *
  generalize w1.heap.size + 1 + 1 = B3 at *
  generalize w1.heap.size + 1 = b2 at *
  generalize w1.heap.size = b1 at *
  clear hb1
  obtain ⟨i0, hi0, hz0, hz1, hz2⟩ := info27all
  go_loopw [9, 10] (fun sv iv wr => ∃ (i : Nat) (v1 v2 : Value) (l : List G), iv = .int .i64 i ∧ i ≤ len ∧ i ≤ 200 ∧ l.length ≤ i ∧ Hid (St w wr b1 b2 v1 v2 l l sv l)) (fun _ iv _ => 200 - (intOf iv).toNat)
  case atStart => exact ⟨0, _, _, [], rfl, by omega, by omega, by simp, hst⟩
  case round =>
    obtain ⟨i, v1, v2, l, rfl, hil, hi2, hll, hs⟩ := hrel
    by_cases hlt : i < len ∧ i < 200
    · obtain ⟨hlt, hlt2⟩ := hlt
      obtain ⟨x, hx⟩ : ∃ x, gs[i]? = some x := ⟨gs[i], by simp⟩
      obtain ⟨b, off, rfl, hbw, c0, c1, c2, c3, c4, c5⟩ := hin.at hs.out.below hx
      by_cases h12 : 4096 < x.b.size
      · go_wp2_with fail
        go_ret
        exact ⟨rfl, hs.out.below⟩
      · by_cases hpc : putCode l x = 0
        · have hpl : putList l x = l ++ [x] := by simp [putList, hpc]
          have HPC := Lib.hid hpc
          clear hpc
          go_wp2_with fail
          refine (put_any _ _ _ l x _ hs.out.n1 (by omega)).mono ?_
          rintro e w4 ⟨rfl, hp⟩
          rw [hpl] at hp
          rw [HPC.out]
          obtain ⟨v1', hs1⟩ := hs.out.net1 hp
          clear hp
          obtain ⟨b', off', he, _, d0, d1, d2, d3, d4, d5⟩ := hin.at hs1.below hx
          obtain ⟨rfl, rfl⟩ : b = b' ∧ off = off' := by simpa using he
          have HS1 := Lib.hid hs1
          clear hs1 he
          go_wp2_with fail
          refine (put_any _ _ _ l x _ HS1.out.n2 (by omega)).mono ?_
          rintro e w5 ⟨rfl, hp⟩
          rw [hpl] at hp
          rw [HPC.out]
          obtain ⟨v2', hs2⟩ := HS1.out.net2 hp
          clear hp
          obtain ⟨b', off', he, _, e0, e1, e2, e3, e4, e5⟩ := hin.at hs2.below hx
          obtain ⟨rfl, rfl⟩ : b = b' ∧ off = off' := by simpa using he
          have hbw5 : b < w5.heap.size := Nat.lt_of_lt_of_le hbw hs2.below.size
          obtain ⟨X, hX⟩ : ∃ X, X = w5.alloc (.cells #[.int .i64 x.c, .bool x.u, .int .i64 x.e, .int .i64 x.s, .int .i64 x.a, .string x.b] 27) := ⟨_, rfl⟩
          have hXB : Below w5.heap.size w5 X := by rw [hX]; exact (Below.refl _ _).alloc (Nat.le_refl _) _
          have hXb : X.heap[w5.heap.size]? = some (.cells #[.int .i64 x.c, .bool x.u, .int .i64 x.e, .int .i64 x.s, .int .i64 x.a, .string x.b] 27 (0, 0)) := by rw [hX]; exact World.alloc_heap_new _ _
          have hown := Lib.hid (hs2.step hXB).s
          have hnw : Hid (∀ j y, (rows [x])[j]? = some y → X.cell? ((⟨w5.heap.size, 0, none⟩ : Addr).add j) = some y) := fun j y hy => World.news_of_block hXb j y (by simpa [rows, G.cells] using hy)
          have hbase : Hid (w.heap.size ≤ X.heap.size) := Nat.le_trans hs2.below.size hXB.size
          rw [hX] at hown hnw hbase
          have HX := Lib.hid hX
          have HXB := Lib.hid hXB
          have HS2 := Lib.hid hs2
          have h1c := Lib.hid (rows_one [x])
          clear hs2 he hX hXB hXb
          go_wp2_with (at_builtin; refine wpList_append_lies _ rfl (.tmp 62) (.tmp 67) 22 rfl w.heap.size 27 i0 _ 6 56 Try.underlying22 hi0 hz0 hz1 hz2 rfl (by decide) u9 l.length (rows l) rfl hown.out ⟨w5.heap.size, 0, none⟩ 1 1 (rows [x]) rfl rfl hnw.out h1c.out (by decide) (by unfold maxLen; omega) (by omega) hbase.out _ rfl ?_; intro g2 cap2 w6 hown2 hgrow2 hat2 hlt2)
          have hat3 : u9.ownBlock = some g2 ∨ g2 = X.heap.size := by rw [HX.out]; exact hat2
          have hs3 := HS2.out.app HXB.out hown2 (by rw [HX.out]; exact hgrow2) hat3 rfl
          have HS3 := Lib.hid hs3
          clear hs3 hat2 hat3 hown2 hgrow2 hlt2
          go_roundw
          case rel => exact ⟨i + 1, _, _, l ++ [x], by simp, by omega, by omega, by simp; omega, HS3.out⟩
          case measure => simp [intOf]; omega
        · have hpl : putList l x = l := by simp [putList, hpc]
          have hpb : (putCode l x == 0) = false := by simpa using hpc
          clear hpc
          go_wp2_with fail
          refine (put_any _ _ _ l x _ hs.out.n1 (by omega)).mono ?_
          rintro e w4 ⟨rfl, hp⟩
          rw [hpl] at hp
          obtain ⟨v1', hs1⟩ := hs.out.net1 hp
          clear hp
          obtain ⟨b', off', he, _, d0, d1, d2, d3, d4, d5⟩ := hin.at hs1.below hx
          obtain ⟨rfl, rfl⟩ : b = b' ∧ off = off' := by simpa using he
          have HS1 := Lib.hid hs1
          clear hs1 he
          go_wp2_with fail
          refine (put_any _ _ _ l x _ HS1.out.n2 (by omega)).mono ?_
          rintro e w5 ⟨rfl, hp⟩
          rw [hpl] at hp
          obtain ⟨v2', hs2⟩ := HS1.out.net2 hp
          clear hp
          have HS2 := Lib.hid hs2
          clear hs2
          go_wp2
          go_roundw
          case rel => exact ⟨i + 1, _, _, l, by simp, by omega, by omega, by omega, HS2.out⟩
          case measure => simp [intOf]; omega
    · have hi5 : l.length ≤ 200 := by omega
      obtain ⟨A, cap', rfl, hA, hc1, hc2⟩ := row_shape hs.out.s
      unfold maxLen at hc2
      have hcs : (i < len ∧ i = 200) ∨ len ≤ i := by omega
      clear hlt
      rcases hcs with ⟨hq1, hq2⟩ | hq1
      all_goals
        go_wp2_with fail
        go_loopw [12] (fun jv wr => ∃ (j : Nat) (v1 v2 : Value), jv = .int .i64 j ∧ j ≤ l.length ∧ Hid (St w wr b1 b2 v1 v2 (l.drop j) (mid l c u j) (.slice A l.length cap') l)) (fun jv _ => l.length - (intOf jv).toNat)
        case atStart => exact ⟨0, v1, v2, rfl, by omega, by simpa [mid] using hs⟩
        case round =>
          obtain ⟨j, v1', v2', rfl, hjl, hs'⟩ := hrel
          by_cases hlt : j < l.length
          · obtain ⟨x, hx⟩ : ∃ x, l[j]? = some x := ⟨l[j], by simp⟩
            obtain ⟨g, rfl⟩ := hA (by omega)
            have HXX := Lib.hid hx
            have hdp := Lib.hid (drop_pull hx)
            go_wp2_with fail
            refine (eldest_any _ _ _ _ _ hs'.out.n1).mono ?_
            intro e w4 hpp
            obtain ⟨x', y', hx', hy', rfl, hp⟩ := pullpost_ret hpp
            clear hpp
            rw [hdp.out.1] at hx' hy'
            rw [hdp.out.2] at hp
            obtain rfl : x' = x := hx'
            obtain rfl : y' = true := hy'
            obtain ⟨v1'', hs1⟩ := hs'.out.net1 hp
            obtain ⟨c0, c1, c2, c3, c4, c5⟩ := row_cells hs1.s HXX.out
            have hgl : g < w4.heap.size := (hs1.s.lt g rfl).2
            have HS1 := Lib.hid hs1
            clear hp hs1 hx hs'
            go_wp2_with fail
            go_region
            have hal : Below w4.heap.size w4 ((w4.alloc (.cells #[.int .i64 x'.c, .bool x'.u, .int .i64 x'.e, .int .i64 x'.s, .int .i64 x'.a, .string x'.b] 27)).drew) := ((Below.refl _ _).alloc (Nat.le_refl _) _).drew
            have HS2 := Lib.hid (HS1.out.step hal)
            clear hal
            cases hc3 : (x'.c == c) with
            | false =>
              have hw3 : isWay c u x' = false := by simp only [isWay, hc3]; rfl
              have HM := Lib.hid (mid_miss HXX.out hw3)
              clear hw3
              go_wp2
              go_roundw
              case rel => exact ⟨j + 1, _, _, by simp, by omega, by rw [HM.out]; exact HS2.out⟩
              case measure => simp [intOf]; omega
            | true =>
              cases hu3 : (x'.u == u) with
              | false =>
                have hw3 : isWay c u x' = false := by simp only [isWay, hc3, hu3]; rfl
                have HM := Lib.hid (mid_miss HXX.out hw3)
                clear hw3
                go_wp2
                go_roundw
                case rel => exact ⟨j + 1, _, _, by simp, by omega, by rw [HM.out]; exact HS2.out⟩
                case measure => simp [intOf]; omega
              | true =>
                have hw3 : isWay c u x' = true := by simp only [isWay, hc3, hu3]; rfl
                have HM := Lib.hid (mid_hit HXX.out hw3)
                have hml : Hid ((mid l c u j).length ≤ 1000000) := by
                  show _ ≤ _
                  unfold mid
                  rw [List.length_append]
                  have := List.length_filter_le (fun g => !isWay c u g) (l.take j)
                  simp at this ⊢
                  omega
                clear hw3
                go_wp2_with fail
                refine (pick_any _ _ _ _ c u 0 _ (by decide) (by decide) HS2.out.n2 hml.out).mono ?_
                intro e w5 hpp
                obtain ⟨x2, y2, hx2, hy2, rfl, hp⟩ := pullpost_ret hpp
                clear hpp
                rw [HM.out.2.1] at hx2 hy2
                rw [HM.out.2.2] at hp
                obtain rfl : x2 = x' := hx2
                obtain rfl : y2 = true := hy2
                obtain ⟨v2'', hs3⟩ := HS2.out.net2 hp
                obtain ⟨d0, d1, d2, d3, d4, d5⟩ := row_cells hs3.s HXX.out
                have hgl5 : g < w5.heap.size := (hs3.s.lt g rfl).2
                have HS3 := Lib.hid hs3
                clear hp hs3
                go_wp2_with fail
                go_region
                have hal : Below w5.heap.size w5 ((w5.alloc (.cells #[.int .i64 x2.c, .bool x2.u, .int .i64 x2.e, .int .i64 x2.s, .int .i64 x2.a, .string x2.b] 27)).drew) := ((Below.refl _ _).alloc (Nat.le_refl _) _).drew
                have HS4 := Lib.hid (HS3.out.step hal)
                clear hal
                go_wp2
                go_roundw
                case rel => exact ⟨j + 1, _, _, by simp, by omega, HS4.out⟩
                case measure => simp [intOf]; omega
          · obtain rfl : j = l.length := by omega
            have hme := Lib.hid (mid_end l c u)
            have hml : Hid ((mid l c u l.length).length ≤ 1000000) := by
              show _ ≤ _
              unfold mid
              rw [List.length_append]
              have := List.length_filter_le (fun g => !isWay c u g) (l.take l.length)
              simp at this ⊢
              omega
            have hs5 := hs'.out
            rw [List.drop_length] at hs5
            have HS5 := Lib.hid hs5
            clear hs5 hs'
            go_wp2_with fail
            refine (eldest_any _ _ _ _ _ HS5.out.n1).mono ?_
            intro e w4 hpp
            obtain ⟨x, y, hx, hy, rfl, hp⟩ := pullpost_ret hpp
            clear hpp
            obtain ⟨v1'', hs6⟩ := HS5.out.net1 hp
            obtain rfl : x = G.mk 0 false 0 0 0 ByteArray.empty := hx
            obtain rfl : y = false := hy
            have HS6 := Lib.hid (hs6.step ((Below.refl _ _).alloc (Nat.le_refl _) (.cells #[.int .i64 0, .bool false, .int .i64 0, .int .i64 0, .int .i64 0, .string ByteArray.empty] 27)))
            clear hp hs6
            go_wp2_with fail
            refine (pick_any _ _ _ _ c u 0 _ (by decide) (by decide) HS6.out.n2 hml.out).mono ?_
            intro e w5 hpp
            obtain ⟨x, y, hx, hy, rfl, hp⟩ := pullpost_ret hpp
            clear hpp
            rw [hme.out] at hx hy
            obtain ⟨v2'', hs7⟩ := HS6.out.net2 hp
            obtain rfl : x = G.mk 0 false 0 0 0 ByteArray.empty := hx
            obtain rfl : y = false := hy
            have HB7 := Lib.hid (hs7.step ((Below.refl _ _).alloc (Nat.le_refl _) (.cells #[.int .i64 0, .bool false, .int .i64 0, .int .i64 0, .int .i64 0, .string ByteArray.empty] 27))).below
            clear hp hs7
            go_wp2_with fail
            refine (eldest_nil _).mono ?_
            rintro e w6 ⟨rfl, hb6⟩
            have HB8 := Lib.hid ((HB7.out.trans (hb6.mono HB7.out.size)).trans (((Below.refl w6.heap.size w6).alloc (Nat.le_refl _) (.cells #[.int .i64 0, .bool false, .int .i64 0, .int .i64 0, .int .i64 0, .string ByteArray.empty] 27)).mono (Nat.le_trans HB7.out.size hb6.size)))
            clear hb6
            go_wp2_with fail
            refine (gram_any _ _).mono ?_
            rintro e w7 ⟨rfl, hb7⟩
            have HB9 := Lib.hid (HB8.out.trans (hb7.mono HB8.out.size))
            clear hb7
            go_wp2_with fail
            refine (put_nil (G.mk 1 true 0 0 0 ⟨#[]⟩) _).mono ?_
            rintro e w8 ⟨rfl, hb8⟩
            have HB10 := Lib.hid (HB9.out.trans (hb8.mono HB9.out.size))
            clear hb8
            go_wp2_with fail
            refine (count_nil _ _ _).mono ?_
            rintro e w9 ⟨rfl, hb9⟩
            have HB11 := Lib.hid (HB10.out.trans (hb9.mono HB10.out.size))
            clear hb9
            go_wp2_with fail
            refine (clear_nil _ _).mono ?_
            rintro e w10 ⟨rfl, hb10⟩
            have HB12 := Lib.hid (HB11.out.trans (hb10.mono HB11.out.size))
            clear hb10
            go_wp2_with fail
            refine (copy_nil _ _ _ _ (by decide) (by decide)).mono ?_
            rintro e w11 ⟨rfl, hb11⟩
            have HB13 := Lib.hid (HB12.out.trans (hb11.mono HB12.out.size))
            clear hb11
            go_wp2_with fail
            go_ret
            exact ⟨rfl, HB13.out⟩
end Go.Proofs.Ytgfklingekiflaa
