/- A value stored into a box, as one step; the transactions that are at their end. -/
import Derived.Test.YtianblmceohmnaaKeys
namespace Go.Proofs.Ytianblmceohmnaa.Hand
open Go.RowKit Go.Maps Go.Proofs.Ytianblmceohmnaa.PAll Go.Proofs.YtianblmceohmnaaW.PrintWords Go.Proofs.MapF
set_option linter.unusedVariables false
set_option linter.unusedSimpArgs false

/-- A box's whole block is written; the world behind it is a letter. -/
theorem store_box {P : Program} {ops : Array Oper} {rest : List Oper} {o : Oper} {a : Act} {Q : Exit → Act → World → Prop} {W : World} (hgd : o.guard = none) {t : TypeId} {p x : Operand} (ho : o.op = .store t p x)
    {g e : Nat} {cur seg : Array Value} {u : Value} (hp : a.eval p = .pointer (some ⟨g, 0, none⟩)) (hx : a.eval x = u) (hu : u.cells = seg) (hB : W.heap[g]? = some (.cells cur e (0, 0))) (hs : cur.size = seg.size)
    (ht : (P.info? t).map (·.size) = some seg.size) (h1 : ∀ q ∈ seg.toList, q.oneCell' = true)
    (h : ∀ w1, w1.heap[g]? = some (.cells seg e (0, 0)) → W.grownBy w1 (some g) → w1.heap.size = W.heap.size → (∀ B, B ≤ g → Below B W w1) → wpList P ops Q rest (a.put o.dst undef) w1) : wpList P ops Q (o :: rest) a W := by
  refine wpList_plain hgd fun K hK => ?_
  have hst := run_store_run (P := P) (o := 0) t u seg.toList hB (by rw [hu]) (by rw [ht]; simp) (by simp [hs]) h1
  obtain ⟨s1, s2, s3, s4⟩ := setCells_same g seg.toList 0 W
  have hfar : ∀ k, k ≠ g → (W.setCells g 0 seg.toList).heap[k]? = W.heap[k]? := fun k hk => setCells_far _ _ k hk
  unfold Oper.wp
  simp only [execOp, ho, hp, hx, hst, Sem.run_bind, Result.andThen_ok, Sem.run_pure]
  refine hK _ _ (h _ ?_ ⟨s1, s2, s3, Nat.le_of_eq s4.symm, fun k _ hk => hfar k (fun he => hk (by rw [he]))⟩ s4 (fun B hb => ⟨s1, s2, s3, Nat.le_of_eq s4.symm, fun k hk => hfar k (by omega)⟩))
  obtain ⟨cur', hc1, hc2, hc3⟩ := setCells_row (g := g) (e := e) seg.toList 0 W cur hB (by simp [hs])
  rw [hc1]
  have : cur' = seg := by
    apply Array.toList_inj.1
    rw [hc3]; simp [hs]
  rw [this]

theorem box31 {w : World} {g t : Nat} {x : S31} {cs : Array Value} (e : cs = #[.int .i64 x.f0, .int .i64 x.f1.f0, .int .i64 x.f1.f1, .int .i64 x.f1.f2, .int .i64 x.f2, .int .i64 x.f3, .int .i64 x.f4, .int .i64 x.f5, .bool x.f6.f0, .string x.f6.f1, .bool x.f7.f0, .string x.f7.f1, .int .i64 x.f8]) (h : w.heap[g]? = some (.cells cs t (0, 0))) :
    w.cell? ⟨g, 0, none⟩ = some (.int .i64 x.f0) ∧ w.cell? ⟨g, 1, none⟩ = some (.int .i64 x.f1.f0) ∧ w.cell? ⟨g, 2, none⟩ = some (.int .i64 x.f1.f1) ∧ w.cell? ⟨g, 3, none⟩ = some (.int .i64 x.f1.f2) ∧ w.cell? ⟨g, 4, none⟩ = some (.int .i64 x.f2) ∧ w.cell? ⟨g, 5, none⟩ = some (.int .i64 x.f3) ∧ w.cell? ⟨g, 6, none⟩ = some (.int .i64 x.f4) ∧ w.cell? ⟨g, 7, none⟩ = some (.int .i64 x.f5) ∧ w.cell? ⟨g, 8, none⟩ = some (.bool x.f6.f0) ∧ w.cell? ⟨g, 9, none⟩ = some (.string x.f6.f1) ∧ w.cell? ⟨g, 10, none⟩ = some (.bool x.f7.f0) ∧ w.cell? ⟨g, 11, none⟩ = some (.string x.f7.f1) ∧ w.cell? ⟨g, 12, none⟩ = some (.int .i64 x.f8) := by
  subst e
  refine ⟨(blk_cell h 0).trans rfl, (blk_cell h 1).trans rfl, (blk_cell h 2).trans rfl, (blk_cell h 3).trans rfl, (blk_cell h 4).trans rfl, (blk_cell h 5).trans rfl, (blk_cell h 6).trans rfl, (blk_cell h 7).trans rfl, (blk_cell h 8).trans rfl, (blk_cell h 9).trans rfl, (blk_cell h 10).trans rfl, (blk_cell h 11).trans rfl, (blk_cell h 12).trans rfl⟩

/-! Who is at their end. -/
noncomputable def endF (l : List S31) : Lit → Option Value := l.foldl (fun f x => if good x && isEnd x then upd f (KL x.f1) (some (.bool true)) else f) (fun _ => none)
theorem endF_succ {l : List S31} {i : Nat} {x : S31} (hx : l[i]? = some x) : endF (l.take (i + 1)) = if good x && isEnd x then upd (endF (l.take i)) (KL x.f1) (some (.bool true)) else endF (l.take i) := by
  unfold endF
  rw [List.take_add_one, hx]
  simp only [Option.toList_some, List.foldl_append, List.foldl_cons, List.foldl_nil]

abbrev vs31 (x : S31) : Array Value := #[.int .i64 x.f0, .int .i64 x.f1.f0, .int .i64 x.f1.f1, .int .i64 x.f1.f2, .int .i64 x.f2, .int .i64 x.f3, .int .i64 x.f4, .int .i64 x.f5, .bool x.f6.f0, .string x.f6.f1, .bool x.f7.f0, .string x.f7.f1, .int .i64 x.f8]
theorem size31 : (Try.prog.info? 31).map (·.size) = some 13 := by kernel_rfl
theorem one31 (x : S31) : ∀ q ∈ (vs31 x).toList, q.oneCell' = true := by
  intro q hq
  simp at hq
  rcases hq with rfl | rfl | rfl | rfl | rfl | rfl | rfl | rfl | rfl | rfl | rfl | rfl | rfl <;> rfl
abbrev zs31 : Array Value := #[.int .i64 0, .int .i64 0, .int .i64 0, .int .i64 0, .int .i64 0, .int .i64 0, .int .i64 0, .int .i64 0, .bool false, .string (⟨#[]⟩ : ByteArray), .bool false, .string (⟨#[]⟩ : ByteArray), .int .i64 0]
set_option maxHeartbeats 8000000 in
set_option maxRecDepth 100000 in
theorem ended_calls (A0 : Option Addr) (c0 : Nat) (l0 : List S31) (w : World) (hr0 : Kd.C k31 w A0 l0.length l0) (hc0 : l0.length ≤ c0) (hlen : l0.length ≤ 1000) :
    Calls Try.prog 22 #[.slice A0 l0.length c0] w fun e w' => ∃ b, e = .returned (.map (some b)) ∧ w.heap.size ≤ b ∧ At Try.prog 24 w' b l0.length (endF l0) ∧ Below w.heap.size w w' := by
  have HR := Aside0.mk hr0
  have hu31 := Try.underlying31
  have hu24 := Try.underlying24
  have hu53 := Try.underlying53
  clear hr0
  have hmm := @run_makeMap Try.prog
  go_enter Try.func22, Try.ntmps22
  go_wp2_with fail
  go_loopw [9] (fun iv wr => ∃ i : Nat, i ≤ l0.length ∧ iv = .int .i64 i ∧ Aside0 (Below w.heap.size w wr) ∧ Aside0 (At Try.prog 24 wr w.heap.size i (endF (l0.take i)))) (fun iv _ => l0.length - (intOf iv).toNat)
  case atStart => exact ⟨0, Nat.zero_le _, rfl, ⟨below_alloc (Below.refl _ _) _⟩, ⟨At.made _ _ _⟩⟩
  case round =>
    obtain ⟨i, hi, rfl, HB, HM⟩ := hrel
    by_cases hlt : i < l0.length
    · obtain ⟨x, hx⟩ : ∃ x, l0[i]? = some x := ⟨l0[i], by simp [hlt]⟩
      have hrd : rd_T31 l0 (i : Int) = x := by simp [rd_T31, List.getD, hx]
      obtain ⟨ad, e, c0', c1, c2, c3, c4, c5, c6, c7, c8, c9, c10, c11, c12⟩ := at_T31 (Kd.C_below HR.out HB.out) (i : Int) (by omega) (by omega)
      simp only [hrd, Int.toNat_natCast] at c0' c1 c2 c3 c4 c5 c6 c7 c8 c9 c10 c11 c12
      cases e
      have HX := Aside0.mk hx
      clear hx hrd
      have hgc := good_calls x
      have hec := isEnd_calls x
      cases hg : good x with
      | false =>
        rw [hg] at hgc
        have HG := Aside0.mk hg
        clear hg hec
        go_wp2_with (first
          | ((with_reducible refine gate_dst (N := 5) rfl ?_); refine box_event ?hg (N := 5) ?hd (cs := zs31) (t := 31) ?hr ?_; (case hd => rfl); (case hg => rfl); (case hr => first | (go_simp; done) | (go_simp; rfl)); intro gb hg w3 hbox hb; have hgs := Aside0.mk (show w.heap.size < gb by rw [hg]; exact HM.out.lt); have HB3 := Aside0.mk (below_step HB.out hb); have HM3 := Aside0.mk (HM.out.below hb); clear HB HM hg hb)
          | (refine store_box rfl rfl rfl rfl (seg := vs31 x) rfl hbox rfl size31 (one31 x) ?_; intro w4 hbox4 hgr hsz hbel; have HB4 := Aside0.mk (HB3.out.trans (hbel _ (Nat.le_of_lt hgs.out))); have HM4 := Aside0.mk (HM3.out.kept hgr (fun e => Nat.ne_of_lt hgs.out (by injection e))); obtain ⟨d0, d1, d2, d3, d4, d5, d6, d7, d8, d9, d10, d11, d12⟩ := box31 (x := x) rfl hbox4; have BX := Aside0.mk hbox4; clear hbox4 hgr hsz hbel HB3 HM3 hbox)
          | (go_at_call 18; refine (hgc _).mono ?_; rintro e w5 ⟨rfl, hb5⟩; have HB5 := Aside0.mk (below_step HB4.out hb5); have HM5 := Aside0.mk (HM4.out.below hb5); have BX5 := Aside0.mk (blk_below BX.out hb5); clear HB4 HM4 BX d0 d1 d2 d3 d4 d5 d6 d7 d8 d9 d10 d11 d12 hb5; obtain ⟨d0, d1, d2, d3, d4, d5, d6, d7, d8, d9, d10, d11, d12⟩ := box31 (x := x) rfl BX5.out))
        go_roundw
        case rel => exact ⟨i + 1, by omega, by simp, HB5, by rw [endF_succ HX.out, HG.out]; exact ⟨HM5.out.mono (Nat.le_succ _)⟩⟩
        case measure => simp [intOf]; omega
      | true =>
        rw [hg] at hgc
        have HG := Aside0.mk hg
        clear hg
        cases he : isEnd x with
        | false =>
          rw [he] at hec
          have HE := Aside0.mk he
          clear he
          go_wp2_with (first
            | ((with_reducible refine gate_dst (N := 5) rfl ?_); refine box_event ?hg (N := 5) ?hd (cs := zs31) (t := 31) ?hr ?_; (case hd => rfl); (case hg => rfl); (case hr => first | (go_simp; done) | (go_simp; rfl)); intro gb hg w3 hbox hb; have hgs := Aside0.mk (show w.heap.size < gb by rw [hg]; exact HM.out.lt); have HB3 := Aside0.mk (below_step HB.out hb); have HM3 := Aside0.mk (HM.out.below hb); clear HB HM hg hb)
            | (refine store_box rfl rfl rfl rfl (seg := vs31 x) rfl hbox rfl size31 (one31 x) ?_; intro w4 hbox4 hgr hsz hbel; have HB4 := Aside0.mk (HB3.out.trans (hbel _ (Nat.le_of_lt hgs.out))); have HM4 := Aside0.mk (HM3.out.kept hgr (fun e => Nat.ne_of_lt hgs.out (by injection e))); obtain ⟨d0, d1, d2, d3, d4, d5, d6, d7, d8, d9, d10, d11, d12⟩ := box31 (x := x) rfl hbox4; have BX := Aside0.mk hbox4; clear hbox4 hgr hsz hbel HB3 HM3 hbox)
            | (go_at_call 18; refine (hgc _).mono ?_; rintro e w5 ⟨rfl, hb5⟩; have HB5 := Aside0.mk (below_step HB4.out hb5); have HM5 := Aside0.mk (HM4.out.below hb5); have BX5 := Aside0.mk (blk_below BX.out hb5); clear HB4 HM4 BX d0 d1 d2 d3 d4 d5 d6 d7 d8 d9 d10 d11 d12 hb5; obtain ⟨d0, d1, d2, d3, d4, d5, d6, d7, d8, d9, d10, d11, d12⟩ := box31 (x := x) rfl BX5.out)
            | (go_at_call 24; refine (hec _).mono ?_; rintro e w6 ⟨rfl, hb6⟩; have HB6 := Aside0.mk (below_step HB5.out hb6); have HM6 := Aside0.mk (HM5.out.below hb6); have BX6 := Aside0.mk (blk_below BX5.out hb6); clear HB5 HM5 BX5 d0 d1 d2 d3 d4 d5 d6 d7 d8 d9 d10 d11 d12 hb6; obtain ⟨d0, d1, d2, d3, d4, d5, d6, d7, d8, d9, d10, d11, d12⟩ := box31 (x := x) rfl BX6.out))
          go_roundw
          case rel => exact ⟨i + 1, by omega, by simp, HB6, by rw [endF_succ HX.out, HG.out, HE.out]; exact ⟨HM6.out.mono (Nat.le_succ _)⟩⟩
          case measure => simp [intOf]; omega
        | true =>
          rw [he] at hec
          have HE := Aside0.mk he
          clear he
          go_wp2_with (first
            | ((with_reducible refine gate_dst (N := 5) rfl ?_); refine box_event ?hg (N := 5) ?hd (cs := zs31) (t := 31) ?hr ?_; (case hd => rfl); (case hg => rfl); (case hr => first | (go_simp; done) | (go_simp; rfl)); intro gb hg w3 hbox hb; have hgs := Aside0.mk (show w.heap.size < gb by rw [hg]; exact HM.out.lt); have HB3 := Aside0.mk (below_step HB.out hb); have HM3 := Aside0.mk (HM.out.below hb); clear HB HM hg hb)
            | (refine store_box rfl rfl rfl rfl (seg := vs31 x) rfl hbox rfl size31 (one31 x) ?_; intro w4 hbox4 hgr hsz hbel; have HB4 := Aside0.mk (HB3.out.trans (hbel _ (Nat.le_of_lt hgs.out))); have HM4 := Aside0.mk (HM3.out.kept hgr (fun e => Nat.ne_of_lt hgs.out (by injection e))); obtain ⟨d0, d1, d2, d3, d4, d5, d6, d7, d8, d9, d10, d11, d12⟩ := box31 (x := x) rfl hbox4; have BX := Aside0.mk hbox4; clear hbox4 hgr hsz hbel HB3 HM3 hbox)
            | (go_at_call 18; refine (hgc _).mono ?_; rintro e w5 ⟨rfl, hb5⟩; have HB5 := Aside0.mk (below_step HB4.out hb5); have HM5 := Aside0.mk (HM4.out.below hb5); have BX5 := Aside0.mk (blk_below BX.out hb5); clear HB4 HM4 BX d0 d1 d2 d3 d4 d5 d6 d7 d8 d9 d10 d11 d12 hb5; obtain ⟨d0, d1, d2, d3, d4, d5, d6, d7, d8, d9, d10, d11, d12⟩ := box31 (x := x) rfl BX5.out)
            | (go_at_call 24; refine (hec _).mono ?_; rintro e w6 ⟨rfl, hb6⟩; have HB6 := Aside0.mk (below_step HB5.out hb6); have HM6 := Aside0.mk (HM5.out.below hb6); have BX6 := Aside0.mk (blk_below BX5.out hb6); clear HB5 HM5 BX5 d0 d1 d2 d3 d4 d5 d6 d7 d8 d9 d10 d11 d12 hb6; obtain ⟨d0, d1, d2, d3, d4, d5, d6, d7, d8, d9, d10, d11, d12⟩ := box31 (x := x) rfl BX6.out)
            | (at_mapUpdate; refine wpList_store _ rfl _ _ _ 53 rfl 24 4 law24 Try.underlying53 _ i _ rfl HM6.out (by unfold maxLen; omega) _ _ _ rfl rfl (keyOf_KL (good_wf HG.out)) ?_; intro w7 hm7 hgr7 hsz7; have HB7 := Aside0.mk (HB6.out.trans (⟨hgr7.os, hgr7.tape, hgr7.output, hgr7.size, fun k hk => hgr7.block k (Nat.lt_of_lt_of_le hk HB6.out.size) (fun e => Nat.ne_of_lt hk (by injection e))⟩ : Below w.heap.size w6 w7)); have HM7 := Aside0.mk hm7; clear hm7 hgr7 hsz7 HB6 HM6))
          go_roundw
          case rel => exact ⟨i + 1, by omega, by simp, HB7, by rw [endF_succ HX.out, HG.out, HE.out]; exact HM7⟩
          case measure => simp [intOf]; omega
    · obtain rfl : i = l0.length := by omega
      go_wp2
      go_ret
      exact ⟨_, rfl, Nat.le_refl _, by have := HM.out; rw [List.take_length] at this; exact this, HB.out⟩
end Go.Proofs.Ytianblmceohmnaa.Hand
