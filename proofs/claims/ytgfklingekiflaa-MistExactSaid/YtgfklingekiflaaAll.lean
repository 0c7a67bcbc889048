/- The walks of slices.Clone at datagrams, and of mist.All's iterator. -/
import Derived.Lib.SliceRun
import Derived.Test.YtgfklingekiflaaRefClear
namespace Go.Proofs.Ytgfklingekiflaa
open Go.RowKit Go.Shelf
attribute [local go_sem] Oper.semAt_some
set_option linter.unusedSimpArgs false
set_option linter.unusedVariables false

set_option maxHeartbeats 1000000 in
set_option maxRecDepth 100000 in
theorem clone_any (base : Nat) (v : Value) (l : List G) (w : World) (hO : w.ownsRow base 27 6 v l.length (rows l)) (hl : l.length ≤ 1000000) :
    Calls Try.prog 32 #[v] w fun e w' => ∃ v', e = .returned v' ∧ Below w.heap.size w w' ∧ w'.ownsRow w.heap.size 27 6 v' l.length (rows l) := by
  obtain ⟨A, cap, rfl, hA, hcap, hmax⟩ := row_shape hO
  unfold maxLen at hmax
  obtain ⟨i0, hi, hz0, hz1, hz2⟩ := info27all
  cases A with
  | none =>
    have hl0 : l = [] := by
      rcases Nat.eq_zero_or_pos l.length with h | h
      · exact List.length_eq_zero_iff.1 h
      · obtain ⟨g, hg⟩ := hA h; cases hg
    subst hl0
    clear hO hA
    have hq := fun w => Lib.run_eql_slice_nil (P := Try.prog) w 22 27 none 0 cap 0 0 Try.underlying22
    simp only [List.length_nil]
    go_enter Try.func32, Try.ntmps32
    go_wp2
    go_ret
    exact ⟨_, rfl, Below.refl _ _, World.ownsRow_nil _ _ _ _⟩
  | some a =>
    have hO0 : Hid ((w.alloc (.cells #[] 27)).ownsRow w.heap.size 27 6 (.slice (some ⟨w.heap.size, 0, none⟩) 0 0) 0 []) :=
      ⟨rfl, .inr ⟨_, 0, #[], rfl, Nat.le_refl _, World.alloc_heap_new w _, Nat.le_refl _, by simp [maxLen], rfl, rfl⟩⟩
    have hg0 : ∃ g, a = ⟨g, 0, none⟩ := by
      rcases hO.2 with ⟨h, _⟩ | ⟨g, c2, cur, h, _⟩
      · cases h
      · simp at h; exact ⟨g, h.1⟩
    obtain ⟨g, rfl⟩ := hg0
    have HO := Lib.hid hO
    have hgl : g < w.heap.size := (hO.lt g rfl).2
    have HC : Hid (∀ j y, (rows l)[j]? = some y → (w.alloc (.cells #[] 27)).cell? ((⟨g, 0, none⟩ : Addr).add j) = some y) := fun j y hy => by
      have hadd : (⟨g, 0, none⟩ : Addr).add j = ⟨g, j, none⟩ := by unfold Addr.add; split <;> simp_all
      rw [hadd, ((Below.refl _ w).alloc (Nat.le_refl _) _).cell (p := ⟨g, j, none⟩) hgl, ← hadd]
      exact HO.out.cells (g := g) rfl j y hy
    have HL : Hid ((rows l).length = l.length * 6) := rows_length l
    have H1 := Lib.hid (rows_one l)
    clear hO hA
    generalize hn : l.length = n at *
    have Hn := Lib.hid hn
    clear hn
    have hq := fun w => Lib.run_eql_slice_nil (P := Try.prog) w 22 27 (some ⟨g, 0, none⟩) n cap 0 0 Try.underlying22
    go_enter Try.func32, Try.ntmps32
    go_wp2_with (at_builtin; refine wpList_append_own _ rfl (.tmp 5) (.tmp 6) 22 rfl w.heap.size 27 i0 _ 6 56 Try.underlying22 hi hz0 hz1 hz2 rfl (by decide) _ 0 [] rfl hO0.out ⟨g, 0, none⟩ n cap (rows l) rfl HL.out HC.out H1.out (by unfold maxLen; omega) (by omega) (by simp) ?_; intro v2 w2 hown2 hgrow2 _; have HG2 := Lib.hid hgrow2; have HO2 := Lib.hid hown2; clear hgrow2 hown2)
    go_ret
    refine ⟨_, rfl, ?_, ?_⟩
    · refine ((Below.refl _ w).alloc (Nat.le_refl _) _).grown HG2.out (by simp) (fun k e => ?_)
      have e' : (Value.slice (some ⟨w.heap.size, 0, none⟩) 0 0).ownBlock = some k := e
      have : w.heap.size = k := by simpa [Value.ownBlock] using e'
      omega
    · have := HO2.out
      simpa using this

/-- Whatever is cells lies as it lay, but for one block. -/
structure KeepsCells (kb : Nat) (W W' : World) : Prop where
  size : W.heap.size ≤ W'.heap.size
  keep : ∀ k o, k ≠ kb → W.heap[k]? = some o → o.isCells = true → W'.heap[k]? = some o

theorem KeepsCells.trans {kb : Nat} {A B C : World} (h : KeepsCells kb A B) (k : KeepsCells kb B C) : KeepsCells kb A C :=
  ⟨Nat.le_trans h.size k.size, fun i o hi ho hc => k.keep i o hi (h.keep i o hi ho hc) hc⟩
theorem keepsCells_b {kb : Nat} {w : World} (W : World) (l : Nat) (o o' : Obj) (_ : w.heap.size ≤ l) (h : W.heap[l]? = some o) (hc : o.isCells = false) (_ : o.isWalk = false) : KeepsCells kb W (W.putObj l o') :=
  ⟨by simp, fun k x _ hx hxc => by
    have : k ≠ l := fun e => by subst e; rw [h] at hx; cases hx; rw [hc] at hxc; cases hxc
    rw [World.putObj_heap_other this]; exact hx⟩
theorem KeepsCells.below {kb : Nat} {W W' : World} (h : Below W.heap.size W W') : KeepsCells kb W W' :=
  ⟨h.size, fun k o _ ho _ => (h.block k (Array.getElem?_eq_some_iff.1 ho).1).trans ho⟩
theorem KeepsCells.row {kb : Nat} {W W' : World} {base n : Nat} {v : Value} {xs : List Value} (h : KeepsCells kb W W') (hO : W.ownsRow base 27 6 v n xs) (hk : v.ownBlock ≠ some kb) : W'.ownsRow base 27 6 v n xs := by
  refine ⟨hO.1, ?_⟩
  rcases hO.2 with hn | ⟨g, cap, cur, rfl, hb, hgg, rest⟩
  · exact .inl hn
  · exact .inr ⟨g, cap, cur, rfl, hb, h.keep g _ (fun e => hk (by rw [e]; rfl)) hgg rfl, rest⟩

theorem all_in (p : Nat) (w : World) : Calls Try.prog 22 #[.pointer (some ⟨p, 0, none⟩)] w fun e w' => e = .returned (.func (.func 31) #[] #[.pointer (some ⟨w.heap.size, 0, none⟩)]) ∧ w' = w.alloc (.cells #[.pointer (some ⟨p, 0, none⟩)] 24) := by
  go_enter Try.func22, Try.ntmps22
  go_wp2
  go_ret
  exact ⟨rfl, rfl⟩

set_option maxRecDepth 100000 in
set_option maxHeartbeats 2000000 in
theorem all1_in (n : Nat) (y B base b kb : Nat) (v : Value) (l : List G) (W : World) (J Jx : List G → World → Prop) (hkb : kb < W.heap.size) (hl : l.length ≤ 1000000)
    (hY : ∀ (pre : List G) (x : G) W', J pre W' → pre.length < l.length → YieldAt Fence.wide (n - 1) Try.prog y #[x.agg] W' fun e W'' =>
      (e = .returned (.bool true) ∧ J (pre ++ [x]) W'' ∧ KeepsCells kb W' W'') ∨ (e = .returned (.bool false) ∧ Jx (pre ++ [x]) W''))
    (hJ : AbidesFrom W.heap.size J)
    (hB : W.cell? ⟨B, 0, none⟩ = some (.pointer (some ⟨b, 0, none⟩)))
    (hN : NetAt base W b v l) (h0 : J [] W) :
    CallsIn Fence.wide n Try.prog 31 #[.func (.yield y) #[] #[], .pointer (some ⟨B, 0, none⟩)] W fun e W' => (∃ v, e = .returned v) ∧
      ((∃ ys, ys = l ∧ J ys W') ∨ (∃ pre, pre <+: l ∧ Jx pre W')) := by
  have hcell := hN.cell
  have hbl := hN.lt
  have hcl := clone_any base v l W hN.row hl
  obtain ⟨A0, cap0, rfl, _, _, _⟩ := row_shape hN.row
  have HJ := Lib.hid hJ
  have HY := Lib.hid hY
  have HN := Lib.hid hN
  clear hJ hY hN
  refine callsIn_of_wp Try.func31 rfl trivial ?_ rfl
  simp only [Try.ntmps31, List.size_toArray, List.length_cons, List.length_nil, Nat.reduceAdd, Nat.reduceSub, Array.replicate_succ, Array.replicate_zero, List.push_toArray, List.append_toArray, List.nil_append, List.cons_append]
  gi_wp2_with fail
  refine ⟨trivial, fun h => by simp [Fence.wide] at h, (callsIn_wide.2 hcl).mono ?_⟩
  rintro e w1 ⟨v1, rfl, hb1, ho1⟩
  obtain ⟨A1, cap1, rfl, hA1, hcap1, hmax1⟩ := row_shape ho1
  unfold maxLen at hmax1
  have hJ0 := HJ.out
  have hw1s : W.heap.size ≤ w1.heap.size := hb1.size
  have h01 : J [] w1 := HJ.out [] W w1 none h0 (grown_of_below hb1 none) (fun r e => by cases e)
  have HO1 := Lib.hid ho1
  have HB1 := Lib.hid hb1
  clear hcl hb1 ho1 hJ0 hcell hB
  gi_wp2_with fail
  gi_loopw [11] (fun i wr => ∃ k : Nat, k ≤ l.length ∧ i = .int .i64 k ∧ J (l.take k) wr ∧ KeepsCells kb w1 wr) (fun i _ => l.length - (intOf i).toNat)
  case atStart => exact ⟨0, Nat.zero_le _, rfl, h01, ⟨Nat.le_refl _, fun _ _ _ h _ => h⟩⟩
  case round =>
    obtain ⟨k, hk, rfl, hJs, hnx⟩ := hrel
    have hwr : W.heap.size ≤ wr.heap.size := Nat.le_trans hw1s hnx.size
    by_cases hlt : k < l.length
    · obtain ⟨g, rfl⟩ := hA1 (by omega)
      obtain ⟨x, hx⟩ : ∃ x, l[k]? = some x := ⟨l[k], by simp [hlt]⟩
      have hrow := hnx.row HO1.out (by
        intro e
        have := (HO1.out.lt kb e).1
        omega)
      obtain ⟨c0, c1, c2, c3, c4, c5⟩ := row_cells hrow hx
      have htk : Hid (l.take (k + 1) = l.take k ++ [x]) := by show _ = _; rw [List.take_add_one, hx]; rfl
      have hpx : Hid (l.take (k + 1) <+: l) := List.take_prefix _ _
      have hab := HJ.out (l.take k) wr (wr.alloc (.cells #[.int .i64 x.c, .bool x.u, .int .i64 x.e, .int .i64 x.s, .int .i64 x.a, .string x.b] 27)) none hJs (World.grownBy_alloc wr _ none) (fun r e => by cases e)
      obtain ⟨fn, tmps, assign, body, hy, hR⟩ := HY.out (l.take k) x _ hab (by rw [List.length_take]; omega)
      dsimp only [G.agg] at hy
      have HKx := Lib.hid hnx
      clear hnx hJs hab hrow hx
      gi_wp2
      refine ⟨fun h => by simp [Fence.wide] at h, hR.mono ?_⟩
      rintro e W3 (⟨rfl, hJ3, hk3⟩ | ⟨rfl, hJx3⟩)
      · gi_wp2
        go_roundw
        case rel =>
          refine ⟨k + 1, by omega, by simp, by rw [htk.out]; exact hJ3, HKx.out.trans ((KeepsCells.below ((Below.refl _ _).alloc (Nat.le_refl _) _)).trans hk3)⟩
        case measure => simp [intOf]; omega
      · gi_wp2
        refine bodyPost_ret (results_none rfl _ _ _) rfl ?_
        exact ⟨⟨_, rfl⟩, .inr ⟨_, by rw [← htk.out]; exact hpx.out, hJx3⟩⟩
    · obtain rfl : k = l.length := by omega
      rw [List.take_length] at hJs
      gi_wp2
      go_end0
      exact ⟨⟨_, rfl⟩, .inl ⟨_, rfl, hJs⟩⟩
end Go.Proofs.Ytgfklingekiflaa
