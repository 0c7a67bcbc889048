/- Printed texts (the kit's print with stand-ins) for this claim: the reference's Of, ended, Less. -/
import Derived.Test.YtianblmceohmnaaPAllx0
import Derived.Test.YtianblmceohmnaaPAllx1
import Derived.Test.YtianblmceohmnaaRefGood
namespace Go.Proofs.Ytianblmceohmnaa.PAll
open Go.RowKit Go.Proofs.YtianblmceohmnaaW.PrintWords Go.Proofs.YtianblmceohmnaaW.PrintLast Go.Proofs.YtianblmceohmnaaW.PrintMore
attribute [local go_sem] max2_int min2_int max_two min_two max_three min_three max_four min_four   -- for this text's walks alone
set_option linter.unusedVariables false
set_option linter.unusedSimpArgs false

attribute [local go_sem high] eqA24
/-! ### seneschalref17_Of: function 11 -/
def seneschalref17_Of.l0 : Nat → List (S31) → List (S31) → Int → Int → Int → Int → Option ((List (S31)))
 | 0, _, _, _, _, _, _ => none
 | k + 1, x0, x5, x6, x433000, x433001, x433002 => if x6 < (x0.length : Int) then (if 0 ≤ x6 then ((seneschalref04_Good.f ((rd_T31 x0 x6).f0) ((rd_T31 x0 x6).f1.f0) ((rd_T31 x0 x6).f1.f1) ((rd_T31 x0 x6).f1.f2) ((rd_T31 x0 x6).f2) ((rd_T31 x0 x6).f3) ((rd_T31 x0 x6).f4) ((rd_T31 x0 x6).f5) ((rd_T31 x0 x6).f6.f0) ((rd_T31 x0 x6).f6.f1) ((rd_T31 x0 x6).f7.f0) ((rd_T31 x0 x6).f7.f1) ((rd_T31 x0 x6).f8)).bind fun t437 => (if t437 = true then (if (((rd_T31 x0 x6).f1.f0) == x433000 && (((rd_T31 x0 x6).f1.f1) == x433001 && (((rd_T31 x0 x6).f1.f2) == x433002))) = true then (if x5.length < 1172812402961 then (seneschalref17_Of.l0 k x0 (x5 ++ [(⟨(rd_T31 x0 x6).f0, (⟨(rd_T31 x0 x6).f1.f0, (rd_T31 x0 x6).f1.f1, (rd_T31 x0 x6).f1.f2⟩ : S24), (rd_T31 x0 x6).f2, (rd_T31 x0 x6).f3, (rd_T31 x0 x6).f4, (rd_T31 x0 x6).f5, (⟨(rd_T31 x0 x6).f6.f0, (rd_T31 x0 x6).f6.f1⟩ : S29), (⟨(rd_T31 x0 x6).f7.f0, (rd_T31 x0 x6).f7.f1⟩ : S29), (rd_T31 x0 x6).f8⟩ : S31)]) (wrap64 (x6 + 1)) x433000 x433001 x433002) else (none)) else (seneschalref17_Of.l0 k x0 x5 (wrap64 (x6 + 1)) x433000 x433001 x433002)) else (seneschalref17_Of.l0 k x0 x5 (wrap64 (x6 + 1)) x433000 x433001 x433002))) else (none)) else (some x5)
def seneschalref17_Of.f (k : Nat) (l0 : List (S31)) (a1_0 : Int) (a1_1 : Int) (a1_2 : Int) : Option ((List (S31))) := seneschalref17_Of.l0 k l0 (([] : List (S31))) 0 a1_0 a1_1 a1_2
theorem seneschalref17_Of.mono_l : ∀ k, (∀ y0 y1 y2 y3 y4 y5, LeO (seneschalref17_Of.l0 k y0 y1 y2 y3 y4 y5) (seneschalref17_Of.l0 (k + 1) y0 y1 y2 y3 y4 y5))
 | 0 => fun _ _ _ _ _ _ r h => by simp [seneschalref17_Of.l0] at h
 | k + 1 => by
  have ih0 := seneschalref17_Of.mono_l k
  · intro y0 y1 y2 y3 y4 y5
    unfold seneschalref17_Of.l0
    repeat' first
    | (with_reducible exact ih0 _ _ _ _ _ _)
    | (with_reducible exact LeO.refl _)
    | (with_reducible exact LeO.none _)
    | (with_reducible refine LeO.ite ?_ ?_)
    | (with_reducible refine LeO.bind ?_ (fun _ => ?_))
    | exact ih0 _ _ _ _ _ _
    | exact LeO.none _
    | refine LeO.ite ?_ ?_
    | refine LeO.bind ?_ (fun _ => ?_)
theorem seneschalref17_Of.mono : ∀ a0 a1 a2 a3 k, LeO (seneschalref17_Of.f k a0 a1 a2 a3) (seneschalref17_Of.f (k + 1) a0 a1 a2 a3) := by
 intro a0 a1 a2 a3 k
 have ih0 := seneschalref17_Of.mono_l k
 unfold seneschalref17_Of.f
 repeat' first
  | (with_reducible exact ih0 _ _ _ _ _ _)
  | (with_reducible exact LeO.refl _)
  | (with_reducible exact LeO.none _)
  | (with_reducible refine LeO.ite ?_ ?_)
  | (with_reducible refine LeO.bind ?_ (fun _ => ?_))
  | exact ih0 _ _ _ _ _ _
  | exact LeO.none _
  | refine LeO.ite ?_ ?_
  | refine LeO.bind ?_ (fun _ => ?_)
def seneschalref17_Of.T5 : Bool × List (List Nat × List Nat) := (true, [([], []), ([], []), ([0, 1], [0, 1]), ([2], [2]), ([3], [3]), ([4, 4], [4]), ([5], [5]), ([5], [5]), ([6, 7, 5], [5, 6, 7]), ([8, 5], [5, 8]), ([9, 5], [5, 9]), ([5], [5]), ([10, 11, 5], [5, 10, 11]), ([5, 12], [5, 12])])
def seneschalref17_Of.B5 : List Nat := [0, 0, 3, 7, 15, 31, 63, 63, 255, 511, 1023, 63, 4095, 8191]
theorem seneschalref17_Of.tab5 : rtab .any (opsOf Try.f11 5) = seneschalref17_Of.T5 := by kernel_rfl
theorem seneschalref17_Of.bits5 : waitsOk seneschalref17_Of.T5.2 seneschalref17_Of.B5 = true := by kernel_rfl
set_option maxHeartbeats 8000000 in
set_option maxRecDepth 100000 in
theorem seneschalref17_Of.calls (k : Nat) (A0 : Option Addr) (c0 : Nat) (l0 : List (S31)) (a1_0 : Int) (a1_1 : Int) (a1_2 : Int) (r : List (S31)) (w : World) (hr0 : Kd.C k31 w A0 l0.length l0) (hc0 : l0.length ≤ c0) (h : seneschalref17_Of.f k l0 a1_0 a1_1 a1_2 = some r) :
 Calls Try.prog 11 #[.slice A0 l0.length c0, .agg #[.int .i64 a1_0, .int .i64 a1_1, .int .i64 a1_2]] w fun e w' => ∃ v0_ : Value, e = .returned (v0_) ∧ Kd.R k31 31 w' w.heap.size (fun _ => True) v0_ r ∧ Below w.heap.size w w' := by
 have hu24 := Try.underlying24
 have hu31 := Try.underlying31
 have HR0 := Aside0.mk hr0
 have HC0 := Aside0.mk hc0
 clear hr0 hc0
 have HB := Aside0.mk (Below.refl w.heap.size w)
 have H : (seneschalref17_Of.l0 k l0 (([] : List (S31))) 0 a1_0 a1_1 a1_2) = some r := h
 clear h
 obtain ⟨y433, hy433⟩ : ∃ y_ : List (S31), y_ = (([] : List (S31))) := ⟨_, rfl⟩
 replace H : (seneschalref17_Of.l0 k l0 y433 0 a1_0 a1_1 a1_2) = some r := by first | (rw [hy433]; with_reducible exact H) | (have H2_ := (Option.bind_some _ _).symm.trans H; rw [hy433]; with_reducible exact H2_) | (have H2_ := (Option.bind_some _ _).symm.trans H; with_reducible exact H2_) | with_reducible exact H | (rw [hy433]; exact H) | exact H
 have Ny433 := Aside0.mk hy433
 clear hy433
 have H' := Aside0.mk H
 clear H
 go_enter Try.func11, Try.ntmps11
 go_wp2_with (first | ((with_reducible refine gate_dst (N := 3) rfl ?_); refine box_event ?hg (N := 3) ?hd (cs := #[.int .i64 a1_0, .int .i64 a1_1, .int .i64 a1_2]) (t := 24) ?hr ?_; (case hd => rfl); (case hg => rfl); (case hr => first | (go_simp; done) | (go_simp; rfl)); intro gb432 hg w3 hbox hb; have n0_ := Aside0.mk (below_step (by repeat (first | (with_reducible first | exact HB.out | apply below_alloc | apply pw_below_drewN | apply below_drew1) | exact HB.out)) hb); have n1_ := Aside0.mk (hbox); have n2_ := Aside0.mk ((by rw [hg]; exact (below_size (by repeat (first | (with_reducible first | exact HB.out | apply below_alloc | apply pw_below_drewN | apply below_drew1) | exact HB.out))) : w.heap.size ≤ gb432)); have n3_ := Aside0.mk ((by rw [hg]; exact (below_size (by repeat (first | (with_reducible first | exact HB.out | apply below_alloc | apply pw_below_drewN | apply below_drew1) | exact HB.out))) : w.heap.size ≤ gb432)); clear HB; have HB := n0_; have BK432 := n1_; have GW432 := n2_; have GE432 := n3_; clear n0_ n1_ n2_ n3_; clear hb hbox hg) | ((with_reducible refine gate_dst (N := 7) rfl ?_); refine Kd.R_lit k31 _ 31 ?hg (N := 7) ?hd (xs := ([] : List (S31))) (inner := []) (ok := fun _ => True) (okp := fun _ => True) ?hr ?hp (fun _ hk => hk) trivial (Below.refl _ _) (Nat.le_refl _) (by simp) ?_; (case hd => rfl); (case hg => rfl); (case hr => first | (go_simp; done) | (go_simp; rfl)); (case hp => exact (Reps.none _ _)); intro v434 w4 ho5 hb hg_ hnew_; clear hg_ hnew_; (first | rw [← Ny433.out] at ho5 | (simp only [Int.reduceToNat] at ho5; rw [← Ny433.out] at ho5)); have n0_ := Aside0.mk (Kd.R_lower ho5 (below_size (by repeat (first | (with_reducible first | exact HB.out | apply below_alloc | apply pw_below_drewN | apply below_drew1 | refine below_set ?_ GE432.out) | exact HB.out)))); have n1_ := Aside0.mk (blk_below (g := gb432) (o := .cells #[.int .i64 a1_0, .int .i64 a1_1, .int .i64 a1_2] 24 (0, 0)) (by (with_reducible repeat (first | refine blk_drewN ?_ _ | refine blk_drew ?_ | refine blk_alloc ?_ _)); exact BK432.out) hb); have n2_ := Aside0.mk (below_step (by repeat (first | (with_reducible first | exact HB.out | apply below_alloc | apply pw_below_drewN | apply below_drew1 | refine below_set ?_ GE432.out) | exact HB.out)) hb); clear BK432; clear HB; have HO435 := n0_; have BK432 := n1_; have HB := n2_; clear n0_ n1_ n2_; clear hb ho5))
 go_loopg [5, 6] k (fun kq v5 v6 w' => ∃ (x5_1 : List (S31)) (x6_1 : Int), v6 = .int .i64 x6_1 ∧ Aside0 (seneschalref17_Of.l0 kq l0 x5_1 x6_1 a1_0 a1_1 a1_2 = some r) ∧ Aside0 (kq ≤ k) ∧ Aside0 (Kd.R k31 31 w' w.heap.size (fun _ => True) v5 x5_1) ∧ Aside0 (w'.heap[gb432]? = some (.cells #[.int .i64 a1_0, .int .i64 a1_1, .int .i64 a1_2] 24 (0, 0))) ∧ Aside0 (Below w.heap.size w w'))
 case atStart => exact ⟨(y433), (0), (by first | rfl | (simp; done) | (simp [*]; done)), H', ⟨Nat.le_refl _⟩, ⟨by (with_reducible repeat (first | apply Kd.R_alloc | apply Kd.R_drewN | apply Kd.R_drew)); exact HO435.out⟩, ⟨by (with_reducible repeat (first | refine blk_drewN ?_ _ | refine blk_drew ?_ | refine blk_alloc ?_ _)); exact BK432.out⟩, ⟨by repeat (first | (with_reducible first | exact HB.out | apply below_alloc | apply pw_below_drewN | apply below_drew1 | refine below_set ?_ GE432.out) | exact HB.out)⟩⟩
 case round =>
  clear H'
  try clear c1
  try clear p2
  obtain ⟨x5_1, x6_1, rfl, HA, HK1, HO_5, BK432, HB⟩ := hrel
  cases gk with
  | zero => exact absurd HA.out (by simp [seneschalref17_Of.l0])
  | succ k1 =>
   have H := HA.out
   clear HA
   simp only [seneschalref17_Of.l0] at H
   by_cases c6 : x6_1 < (l0.length : Int)
   · rw [if_pos c6] at H
     have c6b0 : decide (x6_1 < (l0.length : Int)) = true := decide_eq_true c6
     clear c6
     by_cases c7 : 0 ≤ x6_1
     · rw [if_pos c7] at H
       have c7b0 : decide (0 ≤ x6_1) = true := decide_eq_true c7
       clear c7
       replace H := Option.bind_eq_some_iff.mp H
       obtain ⟨t437, A80, H⟩ := H
       replace H : (if t437 = true then (if (((rd_T31 l0 x6_1).f1.f0) == a1_0 && (((rd_T31 l0 x6_1).f1.f1) == a1_1 && (((rd_T31 l0 x6_1).f1.f2) == a1_2))) = true then (if x5_1.length < 1172812402961 then (seneschalref17_Of.l0 k1 l0 (x5_1 ++ [(⟨(rd_T31 l0 x6_1).f0, (⟨(rd_T31 l0 x6_1).f1.f0, (rd_T31 l0 x6_1).f1.f1, (rd_T31 l0 x6_1).f1.f2⟩ : S24), (rd_T31 l0 x6_1).f2, (rd_T31 l0 x6_1).f3, (rd_T31 l0 x6_1).f4, (rd_T31 l0 x6_1).f5, (⟨(rd_T31 l0 x6_1).f6.f0, (rd_T31 l0 x6_1).f6.f1⟩ : S29), (⟨(rd_T31 l0 x6_1).f7.f0, (rd_T31 l0 x6_1).f7.f1⟩ : S29), (rd_T31 l0 x6_1).f8⟩ : S31)]) (wrap64 (x6_1 + 1)) a1_0 a1_1 a1_2) else (none)) else (seneschalref17_Of.l0 k1 l0 x5_1 (wrap64 (x6_1 + 1)) a1_0 a1_1 a1_2)) else (seneschalref17_Of.l0 k1 l0 x5_1 (wrap64 (x6_1 + 1)) a1_0 a1_1 a1_2)) = some r := H
       have A8 := Aside0.mk A80
       clear A80
       by_cases c9 : t437 = true
       · subst c9
         have H1 : (if (((rd_T31 l0 x6_1).f1.f0) == a1_0 && (((rd_T31 l0 x6_1).f1.f1) == a1_1 && (((rd_T31 l0 x6_1).f1.f2) == a1_2))) = true then (if x5_1.length < 1172812402961 then (seneschalref17_Of.l0 k1 l0 (x5_1 ++ [(⟨(rd_T31 l0 x6_1).f0, (⟨(rd_T31 l0 x6_1).f1.f0, (rd_T31 l0 x6_1).f1.f1, (rd_T31 l0 x6_1).f1.f2⟩ : S24), (rd_T31 l0 x6_1).f2, (rd_T31 l0 x6_1).f3, (rd_T31 l0 x6_1).f4, (rd_T31 l0 x6_1).f5, (⟨(rd_T31 l0 x6_1).f6.f0, (rd_T31 l0 x6_1).f6.f1⟩ : S29), (⟨(rd_T31 l0 x6_1).f7.f0, (rd_T31 l0 x6_1).f7.f1⟩ : S29), (rd_T31 l0 x6_1).f8⟩ : S31)]) (wrap64 (x6_1 + 1)) a1_0 a1_1 a1_2) else (none)) else (seneschalref17_Of.l0 k1 l0 x5_1 (wrap64 (x6_1 + 1)) a1_0 a1_1 a1_2)) = some r := by rw [if_pos rfl] at H; exact H
         clear H
         have H := H1
         clear H1
         by_cases c10 : (((rd_T31 l0 x6_1).f1.f0) == a1_0 && (((rd_T31 l0 x6_1).f1.f1) == a1_1 && (((rd_T31 l0 x6_1).f1.f2) == a1_2))) = true
         · rw [if_pos c10] at H
           have c10b0 : (((rd_T31 l0 x6_1).f1.f0) == a1_0 && (((rd_T31 l0 x6_1).f1.f1) == a1_1 && (((rd_T31 l0 x6_1).f1.f2) == a1_2))) = true := c10
           (try (have c10b1 : decide (((rd_T31 l0 x6_1).f1.f0) = a1_0 && (((rd_T31 l0 x6_1).f1.f1) == a1_1 && (((rd_T31 l0 x6_1).f1.f2) == a1_2))) = true := by simpa using c10))
           (try (have c10b2 : (((rd_T31 l0 x6_1).f1.f0) == a1_0 && (((rd_T31 l0 x6_1).f1.f1) == a1_1 && (((rd_T31 l0 x6_1).f1.f2) == a1_2))) = true := by simpa using c10))
           clear c10
           by_cases c11 : x5_1.length < 1172812402961
           · rw [if_pos c11] at H
             have LMc11 := Aside0.mk c11
             clear c11
             obtain ⟨y440, hy440⟩ : ∃ y_ : List (S31), y_ = (x5_1 ++ [(⟨(rd_T31 l0 x6_1).f0, (⟨(rd_T31 l0 x6_1).f1.f0, (rd_T31 l0 x6_1).f1.f1, (rd_T31 l0 x6_1).f1.f2⟩ : S24), (rd_T31 l0 x6_1).f2, (rd_T31 l0 x6_1).f3, (rd_T31 l0 x6_1).f4, (rd_T31 l0 x6_1).f5, (⟨(rd_T31 l0 x6_1).f6.f0, (rd_T31 l0 x6_1).f6.f1⟩ : S29), (⟨(rd_T31 l0 x6_1).f7.f0, (rd_T31 l0 x6_1).f7.f1⟩ : S29), (rd_T31 l0 x6_1).f8⟩ : S31)]) := ⟨_, rfl⟩
             replace H : (seneschalref17_Of.l0 k1 l0 y440 (wrap64 (x6_1 + 1)) a1_0 a1_1 a1_2) = some r := by first | (rw [hy440]; with_reducible exact H) | (have H2_ := (Option.bind_some _ _).symm.trans H; rw [hy440]; with_reducible exact H2_) | (have H2_ := (Option.bind_some _ _).symm.trans H; with_reducible exact H2_) | with_reducible exact H | (rw [hy440]; exact H) | exact H
             have Ny440 := Aside0.mk hy440
             clear hy440
             have H' := Aside0.mk H
             clear H
             try go_wp2
             have n0_ := Aside0.mk (Kd.R_drew HO_5.out)
             have n1_ := Aside0.mk (blk_drew BK432.out)
             have n2_ := Aside0.mk (below_drew1 HB.out)
             clear HO_5
             clear BK432
             clear HB
             have HO_5 := n0_
             have BK432 := n1_
             have HB := n2_
             clear n0_ n1_ n2_
             have p436 : 0 ≤ (x6_1 : Int) := of_decide_eq_true (by first | (with_reducible assumption) | assumption)
             have q436 : x6_1 < (l0.length : Int) := of_decide_eq_true (by first | (with_reducible assumption) | assumption)
             obtain ⟨ad436, e436, hx436_0, hx436_1, hx436_2, hx436_3, hx436_4, hx436_5, hx436_6, hx436_7, hx436_8, hx436_9, hx436_10, hx436_11, hx436_12⟩ := at_T31 HR0.out x6_1 p436 q436
             have hw436_12 := hx436_12
             have hw436_11 := hx436_11
             have hw436_10 := hx436_10
             have hw436_9 := hx436_9
             have hw436_8 := hx436_8
             have hw436_7 := hx436_7
             have hw436_6 := hx436_6
             have hw436_5 := hx436_5
             have hw436_4 := hx436_4
             have hw436_3 := hx436_3
             have hw436_2 := hx436_2
             have hw436_1 := hx436_1
             have hw436_0 := hx436_0
             cases e436
             replace hx436_0 := (HB.out.cell (World.block_lt_of_cell? w _ hx436_0)).trans hx436_0
             replace hx436_1 := (HB.out.cell (World.block_lt_of_cell? w _ hx436_1)).trans hx436_1
             replace hx436_2 := (HB.out.cell (World.block_lt_of_cell? w _ hx436_2)).trans hx436_2
             replace hx436_3 := (HB.out.cell (World.block_lt_of_cell? w _ hx436_3)).trans hx436_3
             replace hx436_4 := (HB.out.cell (World.block_lt_of_cell? w _ hx436_4)).trans hx436_4
             replace hx436_5 := (HB.out.cell (World.block_lt_of_cell? w _ hx436_5)).trans hx436_5
             replace hx436_6 := (HB.out.cell (World.block_lt_of_cell? w _ hx436_6)).trans hx436_6
             replace hx436_7 := (HB.out.cell (World.block_lt_of_cell? w _ hx436_7)).trans hx436_7
             replace hx436_8 := (HB.out.cell (World.block_lt_of_cell? w _ hx436_8)).trans hx436_8
             replace hx436_9 := (HB.out.cell (World.block_lt_of_cell? w _ hx436_9)).trans hx436_9
             replace hx436_10 := (HB.out.cell (World.block_lt_of_cell? w _ hx436_10)).trans hx436_10
             replace hx436_11 := (HB.out.cell (World.block_lt_of_cell? w _ hx436_11)).trans hx436_11
             replace hx436_12 := (HB.out.cell (World.block_lt_of_cell? w _ hx436_12)).trans hx436_12
             replace p436 := eq_true p436
             replace q436 := eq_true q436
             have p438 : 0 ≤ (x6_1 : Int) := of_decide_eq_true (by first | (with_reducible assumption) | assumption)
             have q438 : x6_1 < (l0.length : Int) := of_decide_eq_true (by first | (with_reducible assumption) | assumption)
             obtain ⟨ad438, e438, hx438_0, hx438_1, hx438_2, hx438_3, hx438_4, hx438_5, hx438_6, hx438_7, hx438_8, hx438_9, hx438_10, hx438_11, hx438_12⟩ := at_T31 HR0.out x6_1 p438 q438
             have hw438_12 := hx438_12
             have hw438_11 := hx438_11
             have hw438_10 := hx438_10
             have hw438_9 := hx438_9
             have hw438_8 := hx438_8
             have hw438_7 := hx438_7
             have hw438_6 := hx438_6
             have hw438_5 := hx438_5
             have hw438_4 := hx438_4
             have hw438_3 := hx438_3
             have hw438_2 := hx438_2
             have hw438_1 := hx438_1
             have hw438_0 := hx438_0
             obtain rfl : ad436 = ad438 := (by injection e438)
             replace hx438_0 := (HB.out.cell (World.block_lt_of_cell? w _ hx438_0)).trans hx438_0
             replace hx438_1 := (HB.out.cell (World.block_lt_of_cell? w _ hx438_1)).trans hx438_1
             replace hx438_2 := (HB.out.cell (World.block_lt_of_cell? w _ hx438_2)).trans hx438_2
             replace hx438_3 := (HB.out.cell (World.block_lt_of_cell? w _ hx438_3)).trans hx438_3
             replace hx438_4 := (HB.out.cell (World.block_lt_of_cell? w _ hx438_4)).trans hx438_4
             replace hx438_5 := (HB.out.cell (World.block_lt_of_cell? w _ hx438_5)).trans hx438_5
             replace hx438_6 := (HB.out.cell (World.block_lt_of_cell? w _ hx438_6)).trans hx438_6
             replace hx438_7 := (HB.out.cell (World.block_lt_of_cell? w _ hx438_7)).trans hx438_7
             replace hx438_8 := (HB.out.cell (World.block_lt_of_cell? w _ hx438_8)).trans hx438_8
             replace hx438_9 := (HB.out.cell (World.block_lt_of_cell? w _ hx438_9)).trans hx438_9
             replace hx438_10 := (HB.out.cell (World.block_lt_of_cell? w _ hx438_10)).trans hx438_10
             replace hx438_11 := (HB.out.cell (World.block_lt_of_cell? w _ hx438_11)).trans hx438_11
             replace hx438_12 := (HB.out.cell (World.block_lt_of_cell? w _ hx438_12)).trans hx438_12
             replace p438 := eq_true p438
             replace q438 := eq_true q438
             refine start_ (n := 14) (S := fun w' => w'.cell? ⟨gb432, 0, none⟩ = some (.int .i64 a1_0) ∧ w'.cell? ⟨gb432, 1, none⟩ = some (.int .i64 a1_1) ∧ w'.cell? ⟨gb432, 2, none⟩ = some (.int .i64 a1_2) ∧ w'.cell? (ad436.add ((x6_1).toNat * 13)) = some (.int .i64 ((rd_T31 l0 x6_1).f0)) ∧ w'.cell? ⟨(ad436.add ((x6_1).toNat * 13)).block, (ad436.add ((x6_1).toNat * 13)).off + 1, none⟩ = some (.int .i64 ((rd_T31 l0 x6_1).f1.f0)) ∧ w'.cell? ⟨(ad436.add ((x6_1).toNat * 13)).block, (ad436.add ((x6_1).toNat * 13)).off + 2, none⟩ = some (.int .i64 ((rd_T31 l0 x6_1).f1.f1)) ∧ w'.cell? ⟨(ad436.add ((x6_1).toNat * 13)).block, (ad436.add ((x6_1).toNat * 13)).off + 3, none⟩ = some (.int .i64 ((rd_T31 l0 x6_1).f1.f2)) ∧ w'.cell? ⟨(ad436.add ((x6_1).toNat * 13)).block, (ad436.add ((x6_1).toNat * 13)).off + 4, none⟩ = some (.int .i64 ((rd_T31 l0 x6_1).f2)) ∧ w'.cell? ⟨(ad436.add ((x6_1).toNat * 13)).block, (ad436.add ((x6_1).toNat * 13)).off + 5, none⟩ = some (.int .i64 ((rd_T31 l0 x6_1).f3)) ∧ w'.cell? ⟨(ad436.add ((x6_1).toNat * 13)).block, (ad436.add ((x6_1).toNat * 13)).off + 6, none⟩ = some (.int .i64 ((rd_T31 l0 x6_1).f4)) ∧ w'.cell? ⟨(ad436.add ((x6_1).toNat * 13)).block, (ad436.add ((x6_1).toNat * 13)).off + 7, none⟩ = some (.int .i64 ((rd_T31 l0 x6_1).f5)) ∧ w'.cell? ⟨(ad436.add ((x6_1).toNat * 13)).block, (ad436.add ((x6_1).toNat * 13)).off + 8, none⟩ = some (.bool ((rd_T31 l0 x6_1).f6.f0)) ∧ w'.cell? ⟨(ad436.add ((x6_1).toNat * 13)).block, (ad436.add ((x6_1).toNat * 13)).off + 9, none⟩ = some (.string ((rd_T31 l0 x6_1).f6.f1)) ∧ w'.cell? ⟨(ad436.add ((x6_1).toNat * 13)).block, (ad436.add ((x6_1).toNat * 13)).off + 10, none⟩ = some (.bool ((rd_T31 l0 x6_1).f7.f0)) ∧ w'.cell? ⟨(ad436.add ((x6_1).toNat * 13)).block, (ad436.add ((x6_1).toNat * 13)).off + 11, none⟩ = some (.string ((rd_T31 l0 x6_1).f7.f1)) ∧ w'.cell? ⟨(ad436.add ((x6_1).toNat * 13)).block, (ad436.add ((x6_1).toNat * 13)).off + 12, none⟩ = some (.int .i64 ((rd_T31 l0 x6_1).f8)) ∧ w'.cell? (ad436.add ((x6_1).toNat * 13)) = some (.int .i64 ((rd_T31 l0 x6_1).f0)) ∧ w'.cell? ⟨(ad436.add ((x6_1).toNat * 13)).block, (ad436.add ((x6_1).toNat * 13)).off + 1, none⟩ = some (.int .i64 ((rd_T31 l0 x6_1).f1.f0)) ∧ w'.cell? ⟨(ad436.add ((x6_1).toNat * 13)).block, (ad436.add ((x6_1).toNat * 13)).off + 2, none⟩ = some (.int .i64 ((rd_T31 l0 x6_1).f1.f1)) ∧ w'.cell? ⟨(ad436.add ((x6_1).toNat * 13)).block, (ad436.add ((x6_1).toNat * 13)).off + 3, none⟩ = some (.int .i64 ((rd_T31 l0 x6_1).f1.f2)) ∧ w'.cell? ⟨(ad436.add ((x6_1).toNat * 13)).block, (ad436.add ((x6_1).toNat * 13)).off + 4, none⟩ = some (.int .i64 ((rd_T31 l0 x6_1).f2)) ∧ w'.cell? ⟨(ad436.add ((x6_1).toNat * 13)).block, (ad436.add ((x6_1).toNat * 13)).off + 5, none⟩ = some (.int .i64 ((rd_T31 l0 x6_1).f3)) ∧ w'.cell? ⟨(ad436.add ((x6_1).toNat * 13)).block, (ad436.add ((x6_1).toNat * 13)).off + 6, none⟩ = some (.int .i64 ((rd_T31 l0 x6_1).f4)) ∧ w'.cell? ⟨(ad436.add ((x6_1).toNat * 13)).block, (ad436.add ((x6_1).toNat * 13)).off + 7, none⟩ = some (.int .i64 ((rd_T31 l0 x6_1).f5)) ∧ w'.cell? ⟨(ad436.add ((x6_1).toNat * 13)).block, (ad436.add ((x6_1).toNat * 13)).off + 8, none⟩ = some (.bool ((rd_T31 l0 x6_1).f6.f0)) ∧ w'.cell? ⟨(ad436.add ((x6_1).toNat * 13)).block, (ad436.add ((x6_1).toNat * 13)).off + 9, none⟩ = some (.string ((rd_T31 l0 x6_1).f6.f1)) ∧ w'.cell? ⟨(ad436.add ((x6_1).toNat * 13)).block, (ad436.add ((x6_1).toNat * 13)).off + 10, none⟩ = some (.bool ((rd_T31 l0 x6_1).f7.f0)) ∧ w'.cell? ⟨(ad436.add ((x6_1).toNat * 13)).block, (ad436.add ((x6_1).toNat * 13)).off + 11, none⟩ = some (.string ((rd_T31 l0 x6_1).f7.f1)) ∧ w'.cell? ⟨(ad436.add ((x6_1).toNat * 13)).block, (ad436.add ((x6_1).toNat * 13)).off + 12, none⟩ = some (.int .i64 ((rd_T31 l0 x6_1).f8))) (ds := []) #[false, false, false, false, false, false, false, false, false, false, false, false, false, false] (by kernel_rfl) rfl rfl ⟨(blk_cell BK432.out 0).trans rfl, (blk_cell BK432.out 1).trans rfl, (blk_cell BK432.out 2).trans rfl, ((HB.out.cell (World.block_lt_of_cell? w _ hw436_0)).trans hw436_0), ((HB.out.cell (World.block_lt_of_cell? w _ hw436_1)).trans hw436_1), ((HB.out.cell (World.block_lt_of_cell? w _ hw436_2)).trans hw436_2), ((HB.out.cell (World.block_lt_of_cell? w _ hw436_3)).trans hw436_3), ((HB.out.cell (World.block_lt_of_cell? w _ hw436_4)).trans hw436_4), ((HB.out.cell (World.block_lt_of_cell? w _ hw436_5)).trans hw436_5), ((HB.out.cell (World.block_lt_of_cell? w _ hw436_6)).trans hw436_6), ((HB.out.cell (World.block_lt_of_cell? w _ hw436_7)).trans hw436_7), ((HB.out.cell (World.block_lt_of_cell? w _ hw436_8)).trans hw436_8), ((HB.out.cell (World.block_lt_of_cell? w _ hw436_9)).trans hw436_9), ((HB.out.cell (World.block_lt_of_cell? w _ hw436_10)).trans hw436_10), ((HB.out.cell (World.block_lt_of_cell? w _ hw436_11)).trans hw436_11), ((HB.out.cell (World.block_lt_of_cell? w _ hw436_12)).trans hw436_12), ((HB.out.cell (World.block_lt_of_cell? w _ hw438_0)).trans hw438_0), ((HB.out.cell (World.block_lt_of_cell? w _ hw438_1)).trans hw438_1), ((HB.out.cell (World.block_lt_of_cell? w _ hw438_2)).trans hw438_2), ((HB.out.cell (World.block_lt_of_cell? w _ hw438_3)).trans hw438_3), ((HB.out.cell (World.block_lt_of_cell? w _ hw438_4)).trans hw438_4), ((HB.out.cell (World.block_lt_of_cell? w _ hw438_5)).trans hw438_5), ((HB.out.cell (World.block_lt_of_cell? w _ hw438_6)).trans hw438_6), ((HB.out.cell (World.block_lt_of_cell? w _ hw438_7)).trans hw438_7), ((HB.out.cell (World.block_lt_of_cell? w _ hw438_8)).trans hw438_8), ((HB.out.cell (World.block_lt_of_cell? w _ hw438_9)).trans hw438_9), ((HB.out.cell (World.block_lt_of_cell? w _ hw438_10)).trans hw438_10), ((HB.out.cell (World.block_lt_of_cell? w _ hw438_11)).trans hw438_11), ((HB.out.cell (World.block_lt_of_cell? w _ hw438_12)).trans hw438_12)⟩ (fun hHeld => ?_); refine with_tabW seneschalref17_Of.tab5 seneschalref17_Of.bits5 (fun HT_ HW_ => ?_)
             generalize wr.drew = w12 at HO_5 BK432 HB hx436_0 hx436_1 hx436_10 hx436_11 hx436_12 hx436_2 hx436_3 hx436_4 hx436_5 hx436_6 hx436_7 hx436_8 hx436_9 hx438_0 hx438_1 hx438_10 hx438_11 hx438_12 hx438_2 hx438_3 hx438_4 hx438_5 hx438_6 hx438_7 hx438_8 hx438_9 hHeld ⊢
             refine pure_ (i := 0) (N := some 14) (v := ?_) (a' := ?_) #[true, false, false, false, false, false, false, false, false, false, false, false, false, false] rfl rfl (any_of HT_.out (by kernel_rfl)) (fun _ _ _ h => h) (Or.inl ⟨by rfl, ?_⟩) ?_ ?_; rotate_left; intro w'; go_simp; with_reducible rfl; rotate_left; simp only [Act.put, List.setIfInBounds_toArray, List.set_cons_zero, List.set_cons_succ, i64_w, i32_w]; rfl
             refine pure_ (i := 1) (N := some 15) (v := ?_) (a' := ?_) #[true, true, false, false, false, false, false, false, false, false, false, false, false, false] rfl rfl (any_of HT_.out (by kernel_rfl)) (fun _ _ _ h => h) (Or.inl ⟨by rfl, ?_⟩) ?_ ?_; rotate_left; intro w'; go_simp; with_reducible rfl; rotate_left; simp only [Act.put, List.setIfInBounds_toArray, List.set_cons_zero, List.set_cons_succ, i64_w, i32_w]; rfl
             refine pure_ (i := 2) (N := some 16) (v := ?_) (a' := ?_) #[true, true, true, false, false, false, false, false, false, false, false, false, false, false] rfl rfl (any_of HT_.out (by kernel_rfl)) (fun _ _ _ h => h) (Or.inl ⟨by rfl, ?_⟩) ?_ ?_; rotate_left; intro w'; go_simp; with_reducible rfl; rotate_left; simp only [Act.put, List.setIfInBounds_toArray, List.set_cons_zero, List.set_cons_succ, i64_w, i32_w]; rfl
             refine take_ (i := 3) (N := some 17) (v := ?_) (a' := ?_) #[true, true, true, true, false, false, false, false, false, false, false, false, false, false] rfl rfl (take_ofW HT_.out HW_.out (by kernel_rfl)) (fun _ _ _ h => h) (Or.inl ⟨by rfl, ?_⟩) hHeld ?_ ?_; rotate_left; rintro w' ⟨s0, s1, s2, s3, s4, s5, s6, s7, s8, s9, s10, s11, s12, s13, s14, s15, s16, s17, s18, s19, s20, s21, s22, s23, s24, s25, s26, s27, s28⟩; go_simp; with_reducible rfl; rotate_left; simp only [Act.put, List.setIfInBounds_toArray, List.set_cons_zero, List.set_cons_succ, i64_w, i32_w]; rfl
             refine one_ (i := 4) (N := some 18) #[true, true, true, true, true, false, false, false, false, false, false, false, false, false] rfl rfl (one_of HT_.out (by kernel_rfl)) (by decide) (fun K hK => ?_)
             refine goes_ Try.func20 (by kernel_rfl) rfl #[.agg #[.int .i64 ((rd_T31 l0 x6_1).f0), .int .i64 ((rd_T31 l0 x6_1).f1.f0), .int .i64 ((rd_T31 l0 x6_1).f1.f1), .int .i64 ((rd_T31 l0 x6_1).f1.f2), .int .i64 ((rd_T31 l0 x6_1).f2), .int .i64 ((rd_T31 l0 x6_1).f3), .int .i64 ((rd_T31 l0 x6_1).f4), .int .i64 ((rd_T31 l0 x6_1).f5), .bool ((rd_T31 l0 x6_1).f6.f0), .string ((rd_T31 l0 x6_1).f6.f1), .bool ((rd_T31 l0 x6_1).f7.f0), .string ((rd_T31 l0 x6_1).f7.f1), .int .i64 ((rd_T31 l0 x6_1).f8)]] (by rfl) rfl rfl (by (try simp only [List.map_toArray, List.map_cons, List.map_nil]); first | done | rfl | (simp only [List.length_drop, List.length_take]; rfl)) ?_
             with_reducible refine (seneschalref04_Good.calls ((rd_T31 l0 x6_1).f0) ((rd_T31 l0 x6_1).f1.f0) ((rd_T31 l0 x6_1).f1.f1) ((rd_T31 l0 x6_1).f1.f2) ((rd_T31 l0 x6_1).f2) ((rd_T31 l0 x6_1).f3) ((rd_T31 l0 x6_1).f4) ((rd_T31 l0 x6_1).f5) ((rd_T31 l0 x6_1).f6.f0) ((rd_T31 l0 x6_1).f6.f1) ((rd_T31 l0 x6_1).f7.f0) ((rd_T31 l0 x6_1).f7.f1) ((rd_T31 l0 x6_1).f8) true _ A8.out).mono ?_
             rintro e w13 ⟨rfl, hb⟩
             refine ⟨_, rfl, ?_⟩
             have n0_ := Aside0.mk (Kd.R_below (by (with_reducible repeat (first | apply Kd.R_alloc | apply Kd.R_drewN | apply Kd.R_drew)); exact HO_5.out) hb)
             have n1_ := Aside0.mk (blk_below (g := gb432) (o := .cells #[.int .i64 a1_0, .int .i64 a1_1, .int .i64 a1_2] 24 (0, 0)) (by (with_reducible repeat (first | refine blk_drewN ?_ _ | refine blk_drew ?_ | refine blk_alloc ?_ _)); exact BK432.out) hb)
             have n2_ := Aside0.mk (below_step (by repeat (first | (with_reducible first | exact HB.out | apply below_alloc | apply pw_below_drewN | apply below_drew1 | refine below_set ?_ GE432.out) | exact HB.out)) hb)
             clear HO_5
             clear BK432
             clear HB
             have HO_5 := n0_
             have BK432 := n1_
             have HB := n2_
             clear n0_ n1_ n2_
             (try clear hb)
             (try clear hb2)
             (try clear hk)
             (try clear hi)
             refine hK.out _ _ ⟨(blk_cell BK432.out 0).trans rfl, (blk_cell BK432.out 1).trans rfl, (blk_cell BK432.out 2).trans rfl, ((HB.out.cell (World.block_lt_of_cell? w _ hw436_0)).trans hw436_0), ((HB.out.cell (World.block_lt_of_cell? w _ hw436_1)).trans hw436_1), ((HB.out.cell (World.block_lt_of_cell? w _ hw436_2)).trans hw436_2), ((HB.out.cell (World.block_lt_of_cell? w _ hw436_3)).trans hw436_3), ((HB.out.cell (World.block_lt_of_cell? w _ hw436_4)).trans hw436_4), ((HB.out.cell (World.block_lt_of_cell? w _ hw436_5)).trans hw436_5), ((HB.out.cell (World.block_lt_of_cell? w _ hw436_6)).trans hw436_6), ((HB.out.cell (World.block_lt_of_cell? w _ hw436_7)).trans hw436_7), ((HB.out.cell (World.block_lt_of_cell? w _ hw436_8)).trans hw436_8), ((HB.out.cell (World.block_lt_of_cell? w _ hw436_9)).trans hw436_9), ((HB.out.cell (World.block_lt_of_cell? w _ hw436_10)).trans hw436_10), ((HB.out.cell (World.block_lt_of_cell? w _ hw436_11)).trans hw436_11), ((HB.out.cell (World.block_lt_of_cell? w _ hw436_12)).trans hw436_12), ((HB.out.cell (World.block_lt_of_cell? w _ hw438_0)).trans hw438_0), ((HB.out.cell (World.block_lt_of_cell? w _ hw438_1)).trans hw438_1), ((HB.out.cell (World.block_lt_of_cell? w _ hw438_2)).trans hw438_2), ((HB.out.cell (World.block_lt_of_cell? w _ hw438_3)).trans hw438_3), ((HB.out.cell (World.block_lt_of_cell? w _ hw438_4)).trans hw438_4), ((HB.out.cell (World.block_lt_of_cell? w _ hw438_5)).trans hw438_5), ((HB.out.cell (World.block_lt_of_cell? w _ hw438_6)).trans hw438_6), ((HB.out.cell (World.block_lt_of_cell? w _ hw438_7)).trans hw438_7), ((HB.out.cell (World.block_lt_of_cell? w _ hw438_8)).trans hw438_8), ((HB.out.cell (World.block_lt_of_cell? w _ hw438_9)).trans hw438_9), ((HB.out.cell (World.block_lt_of_cell? w _ hw438_10)).trans hw438_10), ((HB.out.cell (World.block_lt_of_cell? w _ hw438_11)).trans hw438_11), ((HB.out.cell (World.block_lt_of_cell? w _ hw438_12)).trans hw438_12)⟩ (fun hHeld => ?_)
             clear hK K
             refine norm_ (a' := ?_) ?_ ?_
             rotate_left
             · show Act.put _ (some 18) _ = _
               simp only [Act.put, List.setIfInBounds_toArray, List.set_cons_zero, List.set_cons_succ, i64_w, i32_w]
               rfl
             refine pure_ (i := 5) (N := some 19) (v := ?_) (a' := ?_) #[true, true, true, true, true, true, false, false, false, false, false, false, false, false] rfl rfl (any_of HT_.out (by kernel_rfl)) (fun _ _ _ h => h) (Or.inl ⟨by rfl, ?_⟩) ?_ ?_; rotate_left; intro w'; go_simp; with_reducible rfl; rotate_left; simp only [Act.put, List.setIfInBounds_toArray, List.set_cons_zero, List.set_cons_succ, i64_w, i32_w]; rfl
             refine pure_ (i := 6) (N := some 20) (v := ?_) (a' := ?_) #[true, true, true, true, true, true, true, false, false, false, false, false, false, false] rfl rfl (any_of HT_.out (by kernel_rfl)) (fun _ _ _ h => h) (Or.inl ⟨by rfl, ?_⟩) ?_ ?_; rotate_left; intro w'; go_simp; with_reducible rfl; rotate_left; simp only [Act.put, List.setIfInBounds_toArray, List.set_cons_zero, List.set_cons_succ, i64_w, i32_w]; rfl
             refine pure_ (i := 7) (N := some 21) (v := ?_) (a' := ?_) #[true, true, true, true, true, true, true, true, false, false, false, false, false, false] rfl rfl (any_of HT_.out (by kernel_rfl)) (fun _ _ _ h => h) (Or.inl ⟨by rfl, ?_⟩) ?_ ?_; rotate_left; intro w'; go_simp; with_reducible rfl; rotate_left; simp only [Act.put, List.setIfInBounds_toArray, List.set_cons_zero, List.set_cons_succ, i64_w, i32_w]; rfl
             refine pure_ (i := 8) (N := some 22) (v := ?_) (a' := ?_) #[true, true, true, true, true, true, true, true, true, false, false, false, false, false] rfl rfl (any_of HT_.out (by kernel_rfl)) (fun _ _ _ h => h) (Or.inl ⟨by rfl, ?_⟩) ?_ ?_; rotate_left; intro w'; go_simp; with_reducible rfl; rotate_left; simp only [Act.put, List.setIfInBounds_toArray, List.set_cons_zero, List.set_cons_succ, i64_w, i32_w]; rfl
             refine pure_ (i := 9) (N := some 23) (v := ?_) (a' := ?_) #[true, true, true, true, true, true, true, true, true, true, false, false, false, false] rfl rfl (any_of HT_.out (by kernel_rfl)) (fun _ _ _ h => h) (Or.inl ⟨by rfl, ?_⟩) ?_ ?_; rotate_left; intro w'; go_simp; with_reducible rfl; rotate_left; simp only [Act.put, List.setIfInBounds_toArray, List.set_cons_zero, List.set_cons_succ, i64_w, i32_w]; rfl
             refine take_ (i := 10) (N := some 24) (v := ?_) (a' := ?_) #[true, true, true, true, true, true, true, true, true, true, true, false, false, false] rfl rfl (take_ofW HT_.out HW_.out (by kernel_rfl)) (fun _ _ _ h => h) (Or.inl ⟨by rfl, ?_⟩) hHeld ?_ ?_; rotate_left; rintro w' ⟨s0, s1, s2, s3, s4, s5, s6, s7, s8, s9, s10, s11, s12, s13, s14, s15, s16, s17, s18, s19, s20, s21, s22, s23, s24, s25, s26, s27, s28⟩; go_simp; with_reducible rfl; rotate_left; simp only [Act.put, List.setIfInBounds_toArray, List.set_cons_zero, List.set_cons_succ, i64_w, i32_w]; rfl
             refine take_ (i := 11) (N := some 25) (v := ?_) (a' := ?_) #[true, true, true, true, true, true, true, true, true, true, true, true, false, false] rfl rfl (take_ofW HT_.out HW_.out (by kernel_rfl)) (fun _ _ _ h => h) (Or.inl ⟨by rfl, ?_⟩) hHeld ?_ ?_; rotate_left; rintro w' ⟨s0, s1, s2, s3, s4, s5, s6, s7, s8, s9, s10, s11, s12, s13, s14, s15, s16, s17, s18, s19, s20, s21, s22, s23, s24, s25, s26, s27, s28⟩; go_simp; with_reducible rfl; rotate_left; simp only [Act.put, List.setIfInBounds_toArray, List.set_cons_zero, List.set_cons_succ, i64_w, i32_w]; rfl
             refine pure_ (i := 12) (N := some 26) (v := ?_) (a' := ?_) #[true, true, true, true, true, true, true, true, true, true, true, true, true, false] rfl rfl (any_of HT_.out (by kernel_rfl)) (fun _ _ _ h => h) (Or.inl ⟨by rfl, ?_⟩) ?_ ?_; rotate_left; intro w'; go_simp; with_reducible rfl; rotate_left; simp only [Act.put, List.setIfInBounds_toArray, List.set_cons_zero, List.set_cons_succ, i64_w, i32_w]; rfl
             refine pure_ (i := 13) (N := some 27) (v := ?_) (a' := ?_) #[true, true, true, true, true, true, true, true, true, true, true, true, true, true] rfl rfl (any_of HT_.out (by kernel_rfl)) (fun _ _ _ h => h) (Or.inl ⟨by rfl, ?_⟩) ?_ ?_; rotate_left; intro w'; go_simp; with_reducible rfl; rotate_left; simp only [Act.put, List.setIfInBounds_toArray, List.set_cons_zero, List.set_cons_succ, i64_w, i32_w]; rfl
             refine done_ (done_of HT_.out (by kernel_rfl)) ?_
             have p439 : 0 ≤ (x6_1 : Int) := of_decide_eq_true (by first | (with_reducible assumption) | assumption)
             have q439 : x6_1 < (l0.length : Int) := of_decide_eq_true (by first | (with_reducible assumption) | assumption)
             obtain ⟨ad439, e439, hx439_0, hx439_1, hx439_2, hx439_3, hx439_4, hx439_5, hx439_6, hx439_7, hx439_8, hx439_9, hx439_10, hx439_11, hx439_12⟩ := at_T31 HR0.out x6_1 p439 q439
             obtain rfl : ad436 = ad439 := (by injection e439)
             replace hx439_0 := (HB.out.cell (World.block_lt_of_cell? w _ hx439_0)).trans hx439_0
             replace hx439_1 := (HB.out.cell (World.block_lt_of_cell? w _ hx439_1)).trans hx439_1
             replace hx439_2 := (HB.out.cell (World.block_lt_of_cell? w _ hx439_2)).trans hx439_2
             replace hx439_3 := (HB.out.cell (World.block_lt_of_cell? w _ hx439_3)).trans hx439_3
             replace hx439_4 := (HB.out.cell (World.block_lt_of_cell? w _ hx439_4)).trans hx439_4
             replace hx439_5 := (HB.out.cell (World.block_lt_of_cell? w _ hx439_5)).trans hx439_5
             replace hx439_6 := (HB.out.cell (World.block_lt_of_cell? w _ hx439_6)).trans hx439_6
             replace hx439_7 := (HB.out.cell (World.block_lt_of_cell? w _ hx439_7)).trans hx439_7
             replace hx439_8 := (HB.out.cell (World.block_lt_of_cell? w _ hx439_8)).trans hx439_8
             replace hx439_9 := (HB.out.cell (World.block_lt_of_cell? w _ hx439_9)).trans hx439_9
             replace hx439_10 := (HB.out.cell (World.block_lt_of_cell? w _ hx439_10)).trans hx439_10
             replace hx439_11 := (HB.out.cell (World.block_lt_of_cell? w _ hx439_11)).trans hx439_11
             replace hx439_12 := (HB.out.cell (World.block_lt_of_cell? w _ hx439_12)).trans hx439_12
             replace p439 := eq_true p439
             replace q439 := eq_true q439
             try go_wp2_with (first | ((with_reducible refine gate_builtin (b := .append) (xs := #[.tmp 28, .tmp 33]) rfl ?_); at_builtin; refine Kd.R_append k31 (w0 := w) w.heap.size rfl (.tmp 28) (.tmp 33) 22 31 (.agg #[(.int .i64 0), (.int .i64 0), (.int .i64 0), (.int .i64 0), (.int .i64 0), (.int .i64 0), (.int .i64 0), (.int .i64 0), (.bool false), (.string ⟨#[]⟩), (.bool false), (.string ⟨#[]⟩), (.int .i64 0)]) 120 rfl Try.underlying22 info31 rfl (by decide) (by omega) u5 x5_1 (⟨(rd_T31 l0 x6_1).f0, (⟨(rd_T31 l0 x6_1).f1.f0, (rd_T31 l0 x6_1).f1.f1, (rd_T31 l0 x6_1).f1.f2⟩ : S24), (rd_T31 l0 x6_1).f2, (rd_T31 l0 x6_1).f3, (rd_T31 l0 x6_1).f4, (rd_T31 l0 x6_1).f5, (⟨(rd_T31 l0 x6_1).f6.f0, (rd_T31 l0 x6_1).f6.f1⟩ : S29), (⟨(rd_T31 l0 x6_1).f7.f0, (rd_T31 l0 x6_1).f7.f1⟩ : S29), (rd_T31 l0 x6_1).f8⟩ : S31) [.int .i64 ((rd_T31 l0 x6_1).f0), .int .i64 ((rd_T31 l0 x6_1).f1.f0), .int .i64 ((rd_T31 l0 x6_1).f1.f1), .int .i64 ((rd_T31 l0 x6_1).f1.f2), .int .i64 ((rd_T31 l0 x6_1).f2), .int .i64 ((rd_T31 l0 x6_1).f3), .int .i64 ((rd_T31 l0 x6_1).f4), .int .i64 ((rd_T31 l0 x6_1).f5), .bool ((rd_T31 l0 x6_1).f6.f0), .string ((rd_T31 l0 x6_1).f6.f1), .bool ((rd_T31 l0 x6_1).f7.f0), .string ((rd_T31 l0 x6_1).f7.f1), .int .i64 ((rd_T31 l0 x6_1).f8)] (fun _ => True) (fun _ => False) rfl rfl ?aP (fun _ hk => hk.elim) ?aF ?aO ?aB ?aS ?aL ?_; (case aP => exact k31_mkM _ _ _ (⟨(rd_T31 l0 x6_1).f0, (⟨(rd_T31 l0 x6_1).f1.f0, (rd_T31 l0 x6_1).f1.f1, (rd_T31 l0 x6_1).f1.f2⟩ : S24), (rd_T31 l0 x6_1).f2, (rd_T31 l0 x6_1).f3, (rd_T31 l0 x6_1).f4, (rd_T31 l0 x6_1).f5, (⟨(rd_T31 l0 x6_1).f6.f0, (rd_T31 l0 x6_1).f6.f1⟩ : S29), (⟨(rd_T31 l0 x6_1).f7.f0, (rd_T31 l0 x6_1).f7.f1⟩ : S29), (rd_T31 l0 x6_1).f8⟩ : S31)); (case aB => exact (by repeat (first | (with_reducible first | exact HB.out | apply below_alloc | apply pw_below_drewN | apply below_drew1 | refine below_set ?_ GE432.out) | exact HB.out))); (case aF => exact (fun _ _ => trivial)); (case aO => exact (by (with_reducible repeat (first | apply Kd.R_alloc | apply Kd.R_drewN | apply Kd.R_drew)); exact HO_5.out)); (case aS => exact (below_size (by repeat (first | (with_reducible first | exact HB.out | apply below_alloc | apply pw_below_drewN | apply below_drew1 | refine below_set ?_ GE432.out) | exact HB.out)))); (case aL => have := LMc11.out; omega); intro v441 w14 ho hb hg hat; rw [← Ny440.out] at ho; have n0_ := Aside0.mk (blk_grown (g := gb432) (o := .cells #[.int .i64 a1_0, .int .i64 a1_1, .int .i64 a1_2] 24 (0, 0)) (by (with_reducible repeat (first | refine blk_drewN ?_ _ | refine blk_drew ?_ | refine blk_alloc ?_ _)); exact BK432.out) hg (Kd.R_ne HO_5.out BK432.out (by decide))); have n1_ := Aside0.mk (hb); have n2_ := Aside0.mk (ho); clear BK432; clear HB; clear HO_5; have BK432 := n0_; have HB := n1_; have HO442 := n2_; clear n0_ n1_ n2_; clear ho hb hg hat))
             go_roundg k1
             case measure => have := HK1.out; omega
             case rel => exact ⟨(y440), (wrap64 (x6_1 + 1)), (by first | rfl | (simp; done) | (simp [*]; done)), H', ⟨by have := HK1.out; omega⟩, ⟨by (with_reducible repeat (first | apply Kd.R_alloc | apply Kd.R_drewN | apply Kd.R_drew)); exact HO442.out⟩, ⟨by (with_reducible repeat (first | refine blk_drewN ?_ _ | refine blk_drew ?_ | refine blk_alloc ?_ _)); exact BK432.out⟩, ⟨by repeat (first | (with_reducible first | exact HB.out | apply below_alloc | apply pw_below_drewN | apply below_drew1 | refine below_set ?_ GE432.out) | exact HB.out)⟩⟩
           · rw [if_neg c11] at H
             exact absurd H (by simp)
         · rw [if_neg c10] at H
           have c10b0 : (((rd_T31 l0 x6_1).f1.f0) == a1_0 && (((rd_T31 l0 x6_1).f1.f1) == a1_1 && (((rd_T31 l0 x6_1).f1.f2) == a1_2))) = false := by simpa using c10
           (try (have c10b1 : decide (((rd_T31 l0 x6_1).f1.f0) = a1_0 && (((rd_T31 l0 x6_1).f1.f1) == a1_1 && (((rd_T31 l0 x6_1).f1.f2) == a1_2))) = false := by simpa using c10))
           (try (have c10b2 : (((rd_T31 l0 x6_1).f1.f0) == a1_0 && (((rd_T31 l0 x6_1).f1.f1) == a1_1 && (((rd_T31 l0 x6_1).f1.f2) == a1_2))) = false := by simpa using c10))
           (try (have c10b3 : ¬ (((rd_T31 l0 x6_1).f1.f0) = a1_0 && (((rd_T31 l0 x6_1).f1.f1) == a1_1 && (((rd_T31 l0 x6_1).f1.f2) == a1_2))) := by simpa using c10))
           clear c10
           have H' := Aside0.mk H
           clear H
           try go_wp2
           have n0_ := Aside0.mk (Kd.R_drew HO_5.out)
           have n1_ := Aside0.mk (blk_drew BK432.out)
           have n2_ := Aside0.mk (below_drew1 HB.out)
           clear HO_5
           clear BK432
           clear HB
           have HO_5 := n0_
           have BK432 := n1_
           have HB := n2_
           clear n0_ n1_ n2_
           have p436 : 0 ≤ (x6_1 : Int) := of_decide_eq_true (by first | (with_reducible assumption) | assumption)
           have q436 : x6_1 < (l0.length : Int) := of_decide_eq_true (by first | (with_reducible assumption) | assumption)
           obtain ⟨ad436, e436, hx436_0, hx436_1, hx436_2, hx436_3, hx436_4, hx436_5, hx436_6, hx436_7, hx436_8, hx436_9, hx436_10, hx436_11, hx436_12⟩ := at_T31 HR0.out x6_1 p436 q436
           have hw436_12 := hx436_12
           have hw436_11 := hx436_11
           have hw436_10 := hx436_10
           have hw436_9 := hx436_9
           have hw436_8 := hx436_8
           have hw436_7 := hx436_7
           have hw436_6 := hx436_6
           have hw436_5 := hx436_5
           have hw436_4 := hx436_4
           have hw436_3 := hx436_3
           have hw436_2 := hx436_2
           have hw436_1 := hx436_1
           have hw436_0 := hx436_0
           cases e436
           replace hx436_0 := (HB.out.cell (World.block_lt_of_cell? w _ hx436_0)).trans hx436_0
           replace hx436_1 := (HB.out.cell (World.block_lt_of_cell? w _ hx436_1)).trans hx436_1
           replace hx436_2 := (HB.out.cell (World.block_lt_of_cell? w _ hx436_2)).trans hx436_2
           replace hx436_3 := (HB.out.cell (World.block_lt_of_cell? w _ hx436_3)).trans hx436_3
           replace hx436_4 := (HB.out.cell (World.block_lt_of_cell? w _ hx436_4)).trans hx436_4
           replace hx436_5 := (HB.out.cell (World.block_lt_of_cell? w _ hx436_5)).trans hx436_5
           replace hx436_6 := (HB.out.cell (World.block_lt_of_cell? w _ hx436_6)).trans hx436_6
           replace hx436_7 := (HB.out.cell (World.block_lt_of_cell? w _ hx436_7)).trans hx436_7
           replace hx436_8 := (HB.out.cell (World.block_lt_of_cell? w _ hx436_8)).trans hx436_8
           replace hx436_9 := (HB.out.cell (World.block_lt_of_cell? w _ hx436_9)).trans hx436_9
           replace hx436_10 := (HB.out.cell (World.block_lt_of_cell? w _ hx436_10)).trans hx436_10
           replace hx436_11 := (HB.out.cell (World.block_lt_of_cell? w _ hx436_11)).trans hx436_11
           replace hx436_12 := (HB.out.cell (World.block_lt_of_cell? w _ hx436_12)).trans hx436_12
           replace p436 := eq_true p436
           replace q436 := eq_true q436
           have p438 : 0 ≤ (x6_1 : Int) := of_decide_eq_true (by first | (with_reducible assumption) | assumption)
           have q438 : x6_1 < (l0.length : Int) := of_decide_eq_true (by first | (with_reducible assumption) | assumption)
           obtain ⟨ad438, e438, hx438_0, hx438_1, hx438_2, hx438_3, hx438_4, hx438_5, hx438_6, hx438_7, hx438_8, hx438_9, hx438_10, hx438_11, hx438_12⟩ := at_T31 HR0.out x6_1 p438 q438
           have hw438_12 := hx438_12
           have hw438_11 := hx438_11
           have hw438_10 := hx438_10
           have hw438_9 := hx438_9
           have hw438_8 := hx438_8
           have hw438_7 := hx438_7
           have hw438_6 := hx438_6
           have hw438_5 := hx438_5
           have hw438_4 := hx438_4
           have hw438_3 := hx438_3
           have hw438_2 := hx438_2
           have hw438_1 := hx438_1
           have hw438_0 := hx438_0
           obtain rfl : ad436 = ad438 := (by injection e438)
           replace hx438_0 := (HB.out.cell (World.block_lt_of_cell? w _ hx438_0)).trans hx438_0
           replace hx438_1 := (HB.out.cell (World.block_lt_of_cell? w _ hx438_1)).trans hx438_1
           replace hx438_2 := (HB.out.cell (World.block_lt_of_cell? w _ hx438_2)).trans hx438_2
           replace hx438_3 := (HB.out.cell (World.block_lt_of_cell? w _ hx438_3)).trans hx438_3
           replace hx438_4 := (HB.out.cell (World.block_lt_of_cell? w _ hx438_4)).trans hx438_4
           replace hx438_5 := (HB.out.cell (World.block_lt_of_cell? w _ hx438_5)).trans hx438_5
           replace hx438_6 := (HB.out.cell (World.block_lt_of_cell? w _ hx438_6)).trans hx438_6
           replace hx438_7 := (HB.out.cell (World.block_lt_of_cell? w _ hx438_7)).trans hx438_7
           replace hx438_8 := (HB.out.cell (World.block_lt_of_cell? w _ hx438_8)).trans hx438_8
           replace hx438_9 := (HB.out.cell (World.block_lt_of_cell? w _ hx438_9)).trans hx438_9
           replace hx438_10 := (HB.out.cell (World.block_lt_of_cell? w _ hx438_10)).trans hx438_10
           replace hx438_11 := (HB.out.cell (World.block_lt_of_cell? w _ hx438_11)).trans hx438_11
           replace hx438_12 := (HB.out.cell (World.block_lt_of_cell? w _ hx438_12)).trans hx438_12
           replace p438 := eq_true p438
           replace q438 := eq_true q438
           refine start_ (n := 14) (S := fun w' => w'.cell? ⟨gb432, 0, none⟩ = some (.int .i64 a1_0) ∧ w'.cell? ⟨gb432, 1, none⟩ = some (.int .i64 a1_1) ∧ w'.cell? ⟨gb432, 2, none⟩ = some (.int .i64 a1_2) ∧ w'.cell? (ad436.add ((x6_1).toNat * 13)) = some (.int .i64 ((rd_T31 l0 x6_1).f0)) ∧ w'.cell? ⟨(ad436.add ((x6_1).toNat * 13)).block, (ad436.add ((x6_1).toNat * 13)).off + 1, none⟩ = some (.int .i64 ((rd_T31 l0 x6_1).f1.f0)) ∧ w'.cell? ⟨(ad436.add ((x6_1).toNat * 13)).block, (ad436.add ((x6_1).toNat * 13)).off + 2, none⟩ = some (.int .i64 ((rd_T31 l0 x6_1).f1.f1)) ∧ w'.cell? ⟨(ad436.add ((x6_1).toNat * 13)).block, (ad436.add ((x6_1).toNat * 13)).off + 3, none⟩ = some (.int .i64 ((rd_T31 l0 x6_1).f1.f2)) ∧ w'.cell? ⟨(ad436.add ((x6_1).toNat * 13)).block, (ad436.add ((x6_1).toNat * 13)).off + 4, none⟩ = some (.int .i64 ((rd_T31 l0 x6_1).f2)) ∧ w'.cell? ⟨(ad436.add ((x6_1).toNat * 13)).block, (ad436.add ((x6_1).toNat * 13)).off + 5, none⟩ = some (.int .i64 ((rd_T31 l0 x6_1).f3)) ∧ w'.cell? ⟨(ad436.add ((x6_1).toNat * 13)).block, (ad436.add ((x6_1).toNat * 13)).off + 6, none⟩ = some (.int .i64 ((rd_T31 l0 x6_1).f4)) ∧ w'.cell? ⟨(ad436.add ((x6_1).toNat * 13)).block, (ad436.add ((x6_1).toNat * 13)).off + 7, none⟩ = some (.int .i64 ((rd_T31 l0 x6_1).f5)) ∧ w'.cell? ⟨(ad436.add ((x6_1).toNat * 13)).block, (ad436.add ((x6_1).toNat * 13)).off + 8, none⟩ = some (.bool ((rd_T31 l0 x6_1).f6.f0)) ∧ w'.cell? ⟨(ad436.add ((x6_1).toNat * 13)).block, (ad436.add ((x6_1).toNat * 13)).off + 9, none⟩ = some (.string ((rd_T31 l0 x6_1).f6.f1)) ∧ w'.cell? ⟨(ad436.add ((x6_1).toNat * 13)).block, (ad436.add ((x6_1).toNat * 13)).off + 10, none⟩ = some (.bool ((rd_T31 l0 x6_1).f7.f0)) ∧ w'.cell? ⟨(ad436.add ((x6_1).toNat * 13)).block, (ad436.add ((x6_1).toNat * 13)).off + 11, none⟩ = some (.string ((rd_T31 l0 x6_1).f7.f1)) ∧ w'.cell? ⟨(ad436.add ((x6_1).toNat * 13)).block, (ad436.add ((x6_1).toNat * 13)).off + 12, none⟩ = some (.int .i64 ((rd_T31 l0 x6_1).f8)) ∧ w'.cell? (ad436.add ((x6_1).toNat * 13)) = some (.int .i64 ((rd_T31 l0 x6_1).f0)) ∧ w'.cell? ⟨(ad436.add ((x6_1).toNat * 13)).block, (ad436.add ((x6_1).toNat * 13)).off + 1, none⟩ = some (.int .i64 ((rd_T31 l0 x6_1).f1.f0)) ∧ w'.cell? ⟨(ad436.add ((x6_1).toNat * 13)).block, (ad436.add ((x6_1).toNat * 13)).off + 2, none⟩ = some (.int .i64 ((rd_T31 l0 x6_1).f1.f1)) ∧ w'.cell? ⟨(ad436.add ((x6_1).toNat * 13)).block, (ad436.add ((x6_1).toNat * 13)).off + 3, none⟩ = some (.int .i64 ((rd_T31 l0 x6_1).f1.f2)) ∧ w'.cell? ⟨(ad436.add ((x6_1).toNat * 13)).block, (ad436.add ((x6_1).toNat * 13)).off + 4, none⟩ = some (.int .i64 ((rd_T31 l0 x6_1).f2)) ∧ w'.cell? ⟨(ad436.add ((x6_1).toNat * 13)).block, (ad436.add ((x6_1).toNat * 13)).off + 5, none⟩ = some (.int .i64 ((rd_T31 l0 x6_1).f3)) ∧ w'.cell? ⟨(ad436.add ((x6_1).toNat * 13)).block, (ad436.add ((x6_1).toNat * 13)).off + 6, none⟩ = some (.int .i64 ((rd_T31 l0 x6_1).f4)) ∧ w'.cell? ⟨(ad436.add ((x6_1).toNat * 13)).block, (ad436.add ((x6_1).toNat * 13)).off + 7, none⟩ = some (.int .i64 ((rd_T31 l0 x6_1).f5)) ∧ w'.cell? ⟨(ad436.add ((x6_1).toNat * 13)).block, (ad436.add ((x6_1).toNat * 13)).off + 8, none⟩ = some (.bool ((rd_T31 l0 x6_1).f6.f0)) ∧ w'.cell? ⟨(ad436.add ((x6_1).toNat * 13)).block, (ad436.add ((x6_1).toNat * 13)).off + 9, none⟩ = some (.string ((rd_T31 l0 x6_1).f6.f1)) ∧ w'.cell? ⟨(ad436.add ((x6_1).toNat * 13)).block, (ad436.add ((x6_1).toNat * 13)).off + 10, none⟩ = some (.bool ((rd_T31 l0 x6_1).f7.f0)) ∧ w'.cell? ⟨(ad436.add ((x6_1).toNat * 13)).block, (ad436.add ((x6_1).toNat * 13)).off + 11, none⟩ = some (.string ((rd_T31 l0 x6_1).f7.f1)) ∧ w'.cell? ⟨(ad436.add ((x6_1).toNat * 13)).block, (ad436.add ((x6_1).toNat * 13)).off + 12, none⟩ = some (.int .i64 ((rd_T31 l0 x6_1).f8))) (ds := []) #[false, false, false, false, false, false, false, false, false, false, false, false, false, false] (by kernel_rfl) rfl rfl ⟨(blk_cell BK432.out 0).trans rfl, (blk_cell BK432.out 1).trans rfl, (blk_cell BK432.out 2).trans rfl, ((HB.out.cell (World.block_lt_of_cell? w _ hw436_0)).trans hw436_0), ((HB.out.cell (World.block_lt_of_cell? w _ hw436_1)).trans hw436_1), ((HB.out.cell (World.block_lt_of_cell? w _ hw436_2)).trans hw436_2), ((HB.out.cell (World.block_lt_of_cell? w _ hw436_3)).trans hw436_3), ((HB.out.cell (World.block_lt_of_cell? w _ hw436_4)).trans hw436_4), ((HB.out.cell (World.block_lt_of_cell? w _ hw436_5)).trans hw436_5), ((HB.out.cell (World.block_lt_of_cell? w _ hw436_6)).trans hw436_6), ((HB.out.cell (World.block_lt_of_cell? w _ hw436_7)).trans hw436_7), ((HB.out.cell (World.block_lt_of_cell? w _ hw436_8)).trans hw436_8), ((HB.out.cell (World.block_lt_of_cell? w _ hw436_9)).trans hw436_9), ((HB.out.cell (World.block_lt_of_cell? w _ hw436_10)).trans hw436_10), ((HB.out.cell (World.block_lt_of_cell? w _ hw436_11)).trans hw436_11), ((HB.out.cell (World.block_lt_of_cell? w _ hw436_12)).trans hw436_12), ((HB.out.cell (World.block_lt_of_cell? w _ hw438_0)).trans hw438_0), ((HB.out.cell (World.block_lt_of_cell? w _ hw438_1)).trans hw438_1), ((HB.out.cell (World.block_lt_of_cell? w _ hw438_2)).trans hw438_2), ((HB.out.cell (World.block_lt_of_cell? w _ hw438_3)).trans hw438_3), ((HB.out.cell (World.block_lt_of_cell? w _ hw438_4)).trans hw438_4), ((HB.out.cell (World.block_lt_of_cell? w _ hw438_5)).trans hw438_5), ((HB.out.cell (World.block_lt_of_cell? w _ hw438_6)).trans hw438_6), ((HB.out.cell (World.block_lt_of_cell? w _ hw438_7)).trans hw438_7), ((HB.out.cell (World.block_lt_of_cell? w _ hw438_8)).trans hw438_8), ((HB.out.cell (World.block_lt_of_cell? w _ hw438_9)).trans hw438_9), ((HB.out.cell (World.block_lt_of_cell? w _ hw438_10)).trans hw438_10), ((HB.out.cell (World.block_lt_of_cell? w _ hw438_11)).trans hw438_11), ((HB.out.cell (World.block_lt_of_cell? w _ hw438_12)).trans hw438_12)⟩ (fun hHeld => ?_); refine with_tabW seneschalref17_Of.tab5 seneschalref17_Of.bits5 (fun HT_ HW_ => ?_)
           generalize wr.drew = w15 at HO_5 BK432 HB hx436_0 hx436_1 hx436_10 hx436_11 hx436_12 hx436_2 hx436_3 hx436_4 hx436_5 hx436_6 hx436_7 hx436_8 hx436_9 hx438_0 hx438_1 hx438_10 hx438_11 hx438_12 hx438_2 hx438_3 hx438_4 hx438_5 hx438_6 hx438_7 hx438_8 hx438_9 hHeld ⊢
           refine pure_ (i := 0) (N := some 14) (v := ?_) (a' := ?_) #[true, false, false, false, false, false, false, false, false, false, false, false, false, false] rfl rfl (any_of HT_.out (by kernel_rfl)) (fun _ _ _ h => h) (Or.inl ⟨by rfl, ?_⟩) ?_ ?_; rotate_left; intro w'; go_simp; with_reducible rfl; rotate_left; simp only [Act.put, List.setIfInBounds_toArray, List.set_cons_zero, List.set_cons_succ, i64_w, i32_w]; rfl
           refine pure_ (i := 1) (N := some 15) (v := ?_) (a' := ?_) #[true, true, false, false, false, false, false, false, false, false, false, false, false, false] rfl rfl (any_of HT_.out (by kernel_rfl)) (fun _ _ _ h => h) (Or.inl ⟨by rfl, ?_⟩) ?_ ?_; rotate_left; intro w'; go_simp; with_reducible rfl; rotate_left; simp only [Act.put, List.setIfInBounds_toArray, List.set_cons_zero, List.set_cons_succ, i64_w, i32_w]; rfl
           refine pure_ (i := 2) (N := some 16) (v := ?_) (a' := ?_) #[true, true, true, false, false, false, false, false, false, false, false, false, false, false] rfl rfl (any_of HT_.out (by kernel_rfl)) (fun _ _ _ h => h) (Or.inl ⟨by rfl, ?_⟩) ?_ ?_; rotate_left; intro w'; go_simp; with_reducible rfl; rotate_left; simp only [Act.put, List.setIfInBounds_toArray, List.set_cons_zero, List.set_cons_succ, i64_w, i32_w]; rfl
           refine take_ (i := 3) (N := some 17) (v := ?_) (a' := ?_) #[true, true, true, true, false, false, false, false, false, false, false, false, false, false] rfl rfl (take_ofW HT_.out HW_.out (by kernel_rfl)) (fun _ _ _ h => h) (Or.inl ⟨by rfl, ?_⟩) hHeld ?_ ?_; rotate_left; rintro w' ⟨s0, s1, s2, s3, s4, s5, s6, s7, s8, s9, s10, s11, s12, s13, s14, s15, s16, s17, s18, s19, s20, s21, s22, s23, s24, s25, s26, s27, s28⟩; go_simp; with_reducible rfl; rotate_left; simp only [Act.put, List.setIfInBounds_toArray, List.set_cons_zero, List.set_cons_succ, i64_w, i32_w]; rfl
           refine one_ (i := 4) (N := some 18) #[true, true, true, true, true, false, false, false, false, false, false, false, false, false] rfl rfl (one_of HT_.out (by kernel_rfl)) (by decide) (fun K hK => ?_)
           refine goes_ Try.func20 (by kernel_rfl) rfl #[.agg #[.int .i64 ((rd_T31 l0 x6_1).f0), .int .i64 ((rd_T31 l0 x6_1).f1.f0), .int .i64 ((rd_T31 l0 x6_1).f1.f1), .int .i64 ((rd_T31 l0 x6_1).f1.f2), .int .i64 ((rd_T31 l0 x6_1).f2), .int .i64 ((rd_T31 l0 x6_1).f3), .int .i64 ((rd_T31 l0 x6_1).f4), .int .i64 ((rd_T31 l0 x6_1).f5), .bool ((rd_T31 l0 x6_1).f6.f0), .string ((rd_T31 l0 x6_1).f6.f1), .bool ((rd_T31 l0 x6_1).f7.f0), .string ((rd_T31 l0 x6_1).f7.f1), .int .i64 ((rd_T31 l0 x6_1).f8)]] (by rfl) rfl rfl (by (try simp only [List.map_toArray, List.map_cons, List.map_nil]); first | done | rfl | (simp only [List.length_drop, List.length_take]; rfl)) ?_
           with_reducible refine (seneschalref04_Good.calls ((rd_T31 l0 x6_1).f0) ((rd_T31 l0 x6_1).f1.f0) ((rd_T31 l0 x6_1).f1.f1) ((rd_T31 l0 x6_1).f1.f2) ((rd_T31 l0 x6_1).f2) ((rd_T31 l0 x6_1).f3) ((rd_T31 l0 x6_1).f4) ((rd_T31 l0 x6_1).f5) ((rd_T31 l0 x6_1).f6.f0) ((rd_T31 l0 x6_1).f6.f1) ((rd_T31 l0 x6_1).f7.f0) ((rd_T31 l0 x6_1).f7.f1) ((rd_T31 l0 x6_1).f8) true _ A8.out).mono ?_
           rintro e w16 ⟨rfl, hb⟩
           refine ⟨_, rfl, ?_⟩
           have n0_ := Aside0.mk (Kd.R_below (by (with_reducible repeat (first | apply Kd.R_alloc | apply Kd.R_drewN | apply Kd.R_drew)); exact HO_5.out) hb)
           have n1_ := Aside0.mk (blk_below (g := gb432) (o := .cells #[.int .i64 a1_0, .int .i64 a1_1, .int .i64 a1_2] 24 (0, 0)) (by (with_reducible repeat (first | refine blk_drewN ?_ _ | refine blk_drew ?_ | refine blk_alloc ?_ _)); exact BK432.out) hb)
           have n2_ := Aside0.mk (below_step (by repeat (first | (with_reducible first | exact HB.out | apply below_alloc | apply pw_below_drewN | apply below_drew1 | refine below_set ?_ GE432.out) | exact HB.out)) hb)
           clear HO_5
           clear BK432
           clear HB
           have HO_5 := n0_
           have BK432 := n1_
           have HB := n2_
           clear n0_ n1_ n2_
           (try clear hb)
           (try clear hb2)
           (try clear hk)
           (try clear hi)
           refine hK.out _ _ ⟨(blk_cell BK432.out 0).trans rfl, (blk_cell BK432.out 1).trans rfl, (blk_cell BK432.out 2).trans rfl, ((HB.out.cell (World.block_lt_of_cell? w _ hw436_0)).trans hw436_0), ((HB.out.cell (World.block_lt_of_cell? w _ hw436_1)).trans hw436_1), ((HB.out.cell (World.block_lt_of_cell? w _ hw436_2)).trans hw436_2), ((HB.out.cell (World.block_lt_of_cell? w _ hw436_3)).trans hw436_3), ((HB.out.cell (World.block_lt_of_cell? w _ hw436_4)).trans hw436_4), ((HB.out.cell (World.block_lt_of_cell? w _ hw436_5)).trans hw436_5), ((HB.out.cell (World.block_lt_of_cell? w _ hw436_6)).trans hw436_6), ((HB.out.cell (World.block_lt_of_cell? w _ hw436_7)).trans hw436_7), ((HB.out.cell (World.block_lt_of_cell? w _ hw436_8)).trans hw436_8), ((HB.out.cell (World.block_lt_of_cell? w _ hw436_9)).trans hw436_9), ((HB.out.cell (World.block_lt_of_cell? w _ hw436_10)).trans hw436_10), ((HB.out.cell (World.block_lt_of_cell? w _ hw436_11)).trans hw436_11), ((HB.out.cell (World.block_lt_of_cell? w _ hw436_12)).trans hw436_12), ((HB.out.cell (World.block_lt_of_cell? w _ hw438_0)).trans hw438_0), ((HB.out.cell (World.block_lt_of_cell? w _ hw438_1)).trans hw438_1), ((HB.out.cell (World.block_lt_of_cell? w _ hw438_2)).trans hw438_2), ((HB.out.cell (World.block_lt_of_cell? w _ hw438_3)).trans hw438_3), ((HB.out.cell (World.block_lt_of_cell? w _ hw438_4)).trans hw438_4), ((HB.out.cell (World.block_lt_of_cell? w _ hw438_5)).trans hw438_5), ((HB.out.cell (World.block_lt_of_cell? w _ hw438_6)).trans hw438_6), ((HB.out.cell (World.block_lt_of_cell? w _ hw438_7)).trans hw438_7), ((HB.out.cell (World.block_lt_of_cell? w _ hw438_8)).trans hw438_8), ((HB.out.cell (World.block_lt_of_cell? w _ hw438_9)).trans hw438_9), ((HB.out.cell (World.block_lt_of_cell? w _ hw438_10)).trans hw438_10), ((HB.out.cell (World.block_lt_of_cell? w _ hw438_11)).trans hw438_11), ((HB.out.cell (World.block_lt_of_cell? w _ hw438_12)).trans hw438_12)⟩ (fun hHeld => ?_)
           clear hK K
           refine norm_ (a' := ?_) ?_ ?_
           rotate_left
           · show Act.put _ (some 18) _ = _
             simp only [Act.put, List.setIfInBounds_toArray, List.set_cons_zero, List.set_cons_succ, i64_w, i32_w]
             rfl
           refine pure_ (i := 5) (N := some 19) (v := ?_) (a' := ?_) #[true, true, true, true, true, true, false, false, false, false, false, false, false, false] rfl rfl (any_of HT_.out (by kernel_rfl)) (fun _ _ _ h => h) (Or.inl ⟨by rfl, ?_⟩) ?_ ?_; rotate_left; intro w'; go_simp; with_reducible rfl; rotate_left; simp only [Act.put, List.setIfInBounds_toArray, List.set_cons_zero, List.set_cons_succ, i64_w, i32_w]; rfl
           refine pure_ (i := 6) (N := some 20) (v := ?_) (a' := ?_) #[true, true, true, true, true, true, true, false, false, false, false, false, false, false] rfl rfl (any_of HT_.out (by kernel_rfl)) (fun _ _ _ h => h) (Or.inl ⟨by rfl, ?_⟩) ?_ ?_; rotate_left; intro w'; go_simp; with_reducible rfl; rotate_left; simp only [Act.put, List.setIfInBounds_toArray, List.set_cons_zero, List.set_cons_succ, i64_w, i32_w]; rfl
           refine pure_ (i := 7) (N := some 21) (v := ?_) (a' := ?_) #[true, true, true, true, true, true, true, true, false, false, false, false, false, false] rfl rfl (any_of HT_.out (by kernel_rfl)) (fun _ _ _ h => h) (Or.inl ⟨by rfl, ?_⟩) ?_ ?_; rotate_left; intro w'; go_simp; with_reducible rfl; rotate_left; simp only [Act.put, List.setIfInBounds_toArray, List.set_cons_zero, List.set_cons_succ, i64_w, i32_w]; rfl
           refine pure_ (i := 8) (N := some 22) (v := ?_) (a' := ?_) #[true, true, true, true, true, true, true, true, true, false, false, false, false, false] rfl rfl (any_of HT_.out (by kernel_rfl)) (fun _ _ _ h => h) (Or.inl ⟨by rfl, ?_⟩) ?_ ?_; rotate_left; intro w'; go_simp; with_reducible rfl; rotate_left; simp only [Act.put, List.setIfInBounds_toArray, List.set_cons_zero, List.set_cons_succ, i64_w, i32_w]; rfl
           refine pure_ (i := 9) (N := some 23) (v := ?_) (a' := ?_) #[true, true, true, true, true, true, true, true, true, true, false, false, false, false] rfl rfl (any_of HT_.out (by kernel_rfl)) (fun _ _ _ h => h) (Or.inl ⟨by rfl, ?_⟩) ?_ ?_; rotate_left; intro w'; go_simp; with_reducible rfl; rotate_left; simp only [Act.put, List.setIfInBounds_toArray, List.set_cons_zero, List.set_cons_succ, i64_w, i32_w]; rfl
           refine take_ (i := 10) (N := some 24) (v := ?_) (a' := ?_) #[true, true, true, true, true, true, true, true, true, true, true, false, false, false] rfl rfl (take_ofW HT_.out HW_.out (by kernel_rfl)) (fun _ _ _ h => h) (Or.inl ⟨by rfl, ?_⟩) hHeld ?_ ?_; rotate_left; rintro w' ⟨s0, s1, s2, s3, s4, s5, s6, s7, s8, s9, s10, s11, s12, s13, s14, s15, s16, s17, s18, s19, s20, s21, s22, s23, s24, s25, s26, s27, s28⟩; go_simp; with_reducible rfl; rotate_left; simp only [Act.put, List.setIfInBounds_toArray, List.set_cons_zero, List.set_cons_succ, i64_w, i32_w]; rfl
           refine take_ (i := 11) (N := some 25) (v := ?_) (a' := ?_) #[true, true, true, true, true, true, true, true, true, true, true, true, false, false] rfl rfl (take_ofW HT_.out HW_.out (by kernel_rfl)) (fun _ _ _ h => h) (Or.inl ⟨by rfl, ?_⟩) hHeld ?_ ?_; rotate_left; rintro w' ⟨s0, s1, s2, s3, s4, s5, s6, s7, s8, s9, s10, s11, s12, s13, s14, s15, s16, s17, s18, s19, s20, s21, s22, s23, s24, s25, s26, s27, s28⟩; go_simp; with_reducible rfl; rotate_left; simp only [Act.put, List.setIfInBounds_toArray, List.set_cons_zero, List.set_cons_succ, i64_w, i32_w]; rfl
           refine pure_ (i := 12) (N := some 26) (v := ?_) (a' := ?_) #[true, true, true, true, true, true, true, true, true, true, true, true, true, false] rfl rfl (any_of HT_.out (by kernel_rfl)) (fun _ _ _ h => h) (Or.inl ⟨by rfl, ?_⟩) ?_ ?_; rotate_left; intro w'; go_simp; with_reducible rfl; rotate_left; simp only [Act.put, List.setIfInBounds_toArray, List.set_cons_zero, List.set_cons_succ, i64_w, i32_w]; rfl
           refine pure_ (i := 13) (N := some 27) (v := ?_) (a' := ?_) #[true, true, true, true, true, true, true, true, true, true, true, true, true, true] rfl rfl (any_of HT_.out (by kernel_rfl)) (fun _ _ _ h => h) (Or.inl ⟨by rfl, ?_⟩) ?_ ?_; rotate_left; intro w'; go_simp; with_reducible rfl; rotate_left; simp only [Act.put, List.setIfInBounds_toArray, List.set_cons_zero, List.set_cons_succ, i64_w, i32_w]; rfl
           refine done_ (done_of HT_.out (by kernel_rfl)) ?_
           try go_wp2
           go_roundg k1
           case measure => have := HK1.out; omega
           case rel => exact ⟨(x5_1), (wrap64 (x6_1 + 1)), (by first | rfl | (simp; done) | (simp [*]; done)), H', ⟨by have := HK1.out; omega⟩, ⟨by (with_reducible repeat (first | apply Kd.R_alloc | apply Kd.R_drewN | apply Kd.R_drew)); exact HO_5.out⟩, ⟨by (with_reducible repeat (first | refine blk_drewN ?_ _ | refine blk_drew ?_ | refine blk_alloc ?_ _)); exact BK432.out⟩, ⟨by repeat (first | (with_reducible first | exact HB.out | apply below_alloc | apply pw_below_drewN | apply below_drew1 | refine below_set ?_ GE432.out) | exact HB.out)⟩⟩
       · replace c9 := Bool.eq_false_iff.mpr c9
         subst c9
         have H1 : (seneschalref17_Of.l0 k1 l0 x5_1 (wrap64 (x6_1 + 1)) a1_0 a1_1 a1_2) = some r := by rw [if_neg (show ¬ (false = true) by decide)] at H; exact H
         clear H
         have H := H1
         clear H1
         have H' := Aside0.mk H
         clear H
         try go_wp2
         have n0_ := Aside0.mk (Kd.R_drew HO_5.out)
         have n1_ := Aside0.mk (blk_drew BK432.out)
         have n2_ := Aside0.mk (below_drew1 HB.out)
         clear HO_5
         clear BK432
         clear HB
         have HO_5 := n0_
         have BK432 := n1_
         have HB := n2_
         clear n0_ n1_ n2_
         have p436 : 0 ≤ (x6_1 : Int) := of_decide_eq_true (by first | (with_reducible assumption) | assumption)
         have q436 : x6_1 < (l0.length : Int) := of_decide_eq_true (by first | (with_reducible assumption) | assumption)
         obtain ⟨ad436, e436, hx436_0, hx436_1, hx436_2, hx436_3, hx436_4, hx436_5, hx436_6, hx436_7, hx436_8, hx436_9, hx436_10, hx436_11, hx436_12⟩ := at_T31 HR0.out x6_1 p436 q436
         have hw436_12 := hx436_12
         have hw436_11 := hx436_11
         have hw436_10 := hx436_10
         have hw436_9 := hx436_9
         have hw436_8 := hx436_8
         have hw436_7 := hx436_7
         have hw436_6 := hx436_6
         have hw436_5 := hx436_5
         have hw436_4 := hx436_4
         have hw436_3 := hx436_3
         have hw436_2 := hx436_2
         have hw436_1 := hx436_1
         have hw436_0 := hx436_0
         cases e436
         replace hx436_0 := (HB.out.cell (World.block_lt_of_cell? w _ hx436_0)).trans hx436_0
         replace hx436_1 := (HB.out.cell (World.block_lt_of_cell? w _ hx436_1)).trans hx436_1
         replace hx436_2 := (HB.out.cell (World.block_lt_of_cell? w _ hx436_2)).trans hx436_2
         replace hx436_3 := (HB.out.cell (World.block_lt_of_cell? w _ hx436_3)).trans hx436_3
         replace hx436_4 := (HB.out.cell (World.block_lt_of_cell? w _ hx436_4)).trans hx436_4
         replace hx436_5 := (HB.out.cell (World.block_lt_of_cell? w _ hx436_5)).trans hx436_5
         replace hx436_6 := (HB.out.cell (World.block_lt_of_cell? w _ hx436_6)).trans hx436_6
         replace hx436_7 := (HB.out.cell (World.block_lt_of_cell? w _ hx436_7)).trans hx436_7
         replace hx436_8 := (HB.out.cell (World.block_lt_of_cell? w _ hx436_8)).trans hx436_8
         replace hx436_9 := (HB.out.cell (World.block_lt_of_cell? w _ hx436_9)).trans hx436_9
         replace hx436_10 := (HB.out.cell (World.block_lt_of_cell? w _ hx436_10)).trans hx436_10
         replace hx436_11 := (HB.out.cell (World.block_lt_of_cell? w _ hx436_11)).trans hx436_11
         replace hx436_12 := (HB.out.cell (World.block_lt_of_cell? w _ hx436_12)).trans hx436_12
         replace p436 := eq_true p436
         replace q436 := eq_true q436
         refine start_ (n := 14) (S := fun w' => w'.cell? (ad436.add ((x6_1).toNat * 13)) = some (.int .i64 ((rd_T31 l0 x6_1).f0)) ∧ w'.cell? ⟨(ad436.add ((x6_1).toNat * 13)).block, (ad436.add ((x6_1).toNat * 13)).off + 1, none⟩ = some (.int .i64 ((rd_T31 l0 x6_1).f1.f0)) ∧ w'.cell? ⟨(ad436.add ((x6_1).toNat * 13)).block, (ad436.add ((x6_1).toNat * 13)).off + 2, none⟩ = some (.int .i64 ((rd_T31 l0 x6_1).f1.f1)) ∧ w'.cell? ⟨(ad436.add ((x6_1).toNat * 13)).block, (ad436.add ((x6_1).toNat * 13)).off + 3, none⟩ = some (.int .i64 ((rd_T31 l0 x6_1).f1.f2)) ∧ w'.cell? ⟨(ad436.add ((x6_1).toNat * 13)).block, (ad436.add ((x6_1).toNat * 13)).off + 4, none⟩ = some (.int .i64 ((rd_T31 l0 x6_1).f2)) ∧ w'.cell? ⟨(ad436.add ((x6_1).toNat * 13)).block, (ad436.add ((x6_1).toNat * 13)).off + 5, none⟩ = some (.int .i64 ((rd_T31 l0 x6_1).f3)) ∧ w'.cell? ⟨(ad436.add ((x6_1).toNat * 13)).block, (ad436.add ((x6_1).toNat * 13)).off + 6, none⟩ = some (.int .i64 ((rd_T31 l0 x6_1).f4)) ∧ w'.cell? ⟨(ad436.add ((x6_1).toNat * 13)).block, (ad436.add ((x6_1).toNat * 13)).off + 7, none⟩ = some (.int .i64 ((rd_T31 l0 x6_1).f5)) ∧ w'.cell? ⟨(ad436.add ((x6_1).toNat * 13)).block, (ad436.add ((x6_1).toNat * 13)).off + 8, none⟩ = some (.bool ((rd_T31 l0 x6_1).f6.f0)) ∧ w'.cell? ⟨(ad436.add ((x6_1).toNat * 13)).block, (ad436.add ((x6_1).toNat * 13)).off + 9, none⟩ = some (.string ((rd_T31 l0 x6_1).f6.f1)) ∧ w'.cell? ⟨(ad436.add ((x6_1).toNat * 13)).block, (ad436.add ((x6_1).toNat * 13)).off + 10, none⟩ = some (.bool ((rd_T31 l0 x6_1).f7.f0)) ∧ w'.cell? ⟨(ad436.add ((x6_1).toNat * 13)).block, (ad436.add ((x6_1).toNat * 13)).off + 11, none⟩ = some (.string ((rd_T31 l0 x6_1).f7.f1)) ∧ w'.cell? ⟨(ad436.add ((x6_1).toNat * 13)).block, (ad436.add ((x6_1).toNat * 13)).off + 12, none⟩ = some (.int .i64 ((rd_T31 l0 x6_1).f8))) (ds := []) #[false, false, false, false, false, false, false, false, false, false, false, false, false, false] (by kernel_rfl) rfl rfl ⟨((HB.out.cell (World.block_lt_of_cell? w _ hw436_0)).trans hw436_0), ((HB.out.cell (World.block_lt_of_cell? w _ hw436_1)).trans hw436_1), ((HB.out.cell (World.block_lt_of_cell? w _ hw436_2)).trans hw436_2), ((HB.out.cell (World.block_lt_of_cell? w _ hw436_3)).trans hw436_3), ((HB.out.cell (World.block_lt_of_cell? w _ hw436_4)).trans hw436_4), ((HB.out.cell (World.block_lt_of_cell? w _ hw436_5)).trans hw436_5), ((HB.out.cell (World.block_lt_of_cell? w _ hw436_6)).trans hw436_6), ((HB.out.cell (World.block_lt_of_cell? w _ hw436_7)).trans hw436_7), ((HB.out.cell (World.block_lt_of_cell? w _ hw436_8)).trans hw436_8), ((HB.out.cell (World.block_lt_of_cell? w _ hw436_9)).trans hw436_9), ((HB.out.cell (World.block_lt_of_cell? w _ hw436_10)).trans hw436_10), ((HB.out.cell (World.block_lt_of_cell? w _ hw436_11)).trans hw436_11), ((HB.out.cell (World.block_lt_of_cell? w _ hw436_12)).trans hw436_12)⟩ (fun hHeld => ?_); refine with_tabW seneschalref17_Of.tab5 seneschalref17_Of.bits5 (fun HT_ HW_ => ?_)
         generalize wr.drew = w17 at HO_5 BK432 HB hx436_0 hx436_1 hx436_10 hx436_11 hx436_12 hx436_2 hx436_3 hx436_4 hx436_5 hx436_6 hx436_7 hx436_8 hx436_9 hHeld ⊢
         refine pure_ (i := 0) (N := some 14) (v := ?_) (a' := ?_) #[true, false, false, false, false, false, false, false, false, false, false, false, false, false] rfl rfl (any_of HT_.out (by kernel_rfl)) (fun _ _ _ h => h) (Or.inl ⟨by rfl, ?_⟩) ?_ ?_; rotate_left; intro w'; go_simp; with_reducible rfl; rotate_left; simp only [Act.put, List.setIfInBounds_toArray, List.set_cons_zero, List.set_cons_succ, i64_w, i32_w]; rfl
         refine pure_ (i := 1) (N := some 15) (v := ?_) (a' := ?_) #[true, true, false, false, false, false, false, false, false, false, false, false, false, false] rfl rfl (any_of HT_.out (by kernel_rfl)) (fun _ _ _ h => h) (Or.inl ⟨by rfl, ?_⟩) ?_ ?_; rotate_left; intro w'; go_simp; with_reducible rfl; rotate_left; simp only [Act.put, List.setIfInBounds_toArray, List.set_cons_zero, List.set_cons_succ, i64_w, i32_w]; rfl
         refine pure_ (i := 2) (N := some 16) (v := ?_) (a' := ?_) #[true, true, true, false, false, false, false, false, false, false, false, false, false, false] rfl rfl (any_of HT_.out (by kernel_rfl)) (fun _ _ _ h => h) (Or.inl ⟨by rfl, ?_⟩) ?_ ?_; rotate_left; intro w'; go_simp; with_reducible rfl; rotate_left; simp only [Act.put, List.setIfInBounds_toArray, List.set_cons_zero, List.set_cons_succ, i64_w, i32_w]; rfl
         refine take_ (i := 3) (N := some 17) (v := ?_) (a' := ?_) #[true, true, true, true, false, false, false, false, false, false, false, false, false, false] rfl rfl (take_ofW HT_.out HW_.out (by kernel_rfl)) (fun _ _ _ h => h) (Or.inl ⟨by rfl, ?_⟩) hHeld ?_ ?_; rotate_left; rintro w' ⟨s0, s1, s2, s3, s4, s5, s6, s7, s8, s9, s10, s11, s12⟩; go_simp; with_reducible rfl; rotate_left; simp only [Act.put, List.setIfInBounds_toArray, List.set_cons_zero, List.set_cons_succ, i64_w, i32_w]; rfl
         refine one_ (i := 4) (N := some 18) #[true, true, true, true, true, false, false, false, false, false, false, false, false, false] rfl rfl (one_of HT_.out (by kernel_rfl)) (by decide) (fun K hK => ?_)
         refine goes_ Try.func20 (by kernel_rfl) rfl #[.agg #[.int .i64 ((rd_T31 l0 x6_1).f0), .int .i64 ((rd_T31 l0 x6_1).f1.f0), .int .i64 ((rd_T31 l0 x6_1).f1.f1), .int .i64 ((rd_T31 l0 x6_1).f1.f2), .int .i64 ((rd_T31 l0 x6_1).f2), .int .i64 ((rd_T31 l0 x6_1).f3), .int .i64 ((rd_T31 l0 x6_1).f4), .int .i64 ((rd_T31 l0 x6_1).f5), .bool ((rd_T31 l0 x6_1).f6.f0), .string ((rd_T31 l0 x6_1).f6.f1), .bool ((rd_T31 l0 x6_1).f7.f0), .string ((rd_T31 l0 x6_1).f7.f1), .int .i64 ((rd_T31 l0 x6_1).f8)]] (by rfl) rfl rfl (by (try simp only [List.map_toArray, List.map_cons, List.map_nil]); first | done | rfl | (simp only [List.length_drop, List.length_take]; rfl)) ?_
         with_reducible refine (seneschalref04_Good.calls ((rd_T31 l0 x6_1).f0) ((rd_T31 l0 x6_1).f1.f0) ((rd_T31 l0 x6_1).f1.f1) ((rd_T31 l0 x6_1).f1.f2) ((rd_T31 l0 x6_1).f2) ((rd_T31 l0 x6_1).f3) ((rd_T31 l0 x6_1).f4) ((rd_T31 l0 x6_1).f5) ((rd_T31 l0 x6_1).f6.f0) ((rd_T31 l0 x6_1).f6.f1) ((rd_T31 l0 x6_1).f7.f0) ((rd_T31 l0 x6_1).f7.f1) ((rd_T31 l0 x6_1).f8) false _ A8.out).mono ?_
         rintro e w18 ⟨rfl, hb⟩
         refine ⟨_, rfl, ?_⟩
         have n0_ := Aside0.mk (Kd.R_below (by (with_reducible repeat (first | apply Kd.R_alloc | apply Kd.R_drewN | apply Kd.R_drew)); exact HO_5.out) hb)
         have n1_ := Aside0.mk (blk_below (g := gb432) (o := .cells #[.int .i64 a1_0, .int .i64 a1_1, .int .i64 a1_2] 24 (0, 0)) (by (with_reducible repeat (first | refine blk_drewN ?_ _ | refine blk_drew ?_ | refine blk_alloc ?_ _)); exact BK432.out) hb)
         have n2_ := Aside0.mk (below_step (by repeat (first | (with_reducible first | exact HB.out | apply below_alloc | apply pw_below_drewN | apply below_drew1 | refine below_set ?_ GE432.out) | exact HB.out)) hb)
         clear HO_5
         clear BK432
         clear HB
         have HO_5 := n0_
         have BK432 := n1_
         have HB := n2_
         clear n0_ n1_ n2_
         (try clear hb)
         (try clear hb2)
         (try clear hk)
         (try clear hi)
         refine hK.out _ _ ⟨((HB.out.cell (World.block_lt_of_cell? w _ hw436_0)).trans hw436_0), ((HB.out.cell (World.block_lt_of_cell? w _ hw436_1)).trans hw436_1), ((HB.out.cell (World.block_lt_of_cell? w _ hw436_2)).trans hw436_2), ((HB.out.cell (World.block_lt_of_cell? w _ hw436_3)).trans hw436_3), ((HB.out.cell (World.block_lt_of_cell? w _ hw436_4)).trans hw436_4), ((HB.out.cell (World.block_lt_of_cell? w _ hw436_5)).trans hw436_5), ((HB.out.cell (World.block_lt_of_cell? w _ hw436_6)).trans hw436_6), ((HB.out.cell (World.block_lt_of_cell? w _ hw436_7)).trans hw436_7), ((HB.out.cell (World.block_lt_of_cell? w _ hw436_8)).trans hw436_8), ((HB.out.cell (World.block_lt_of_cell? w _ hw436_9)).trans hw436_9), ((HB.out.cell (World.block_lt_of_cell? w _ hw436_10)).trans hw436_10), ((HB.out.cell (World.block_lt_of_cell? w _ hw436_11)).trans hw436_11), ((HB.out.cell (World.block_lt_of_cell? w _ hw436_12)).trans hw436_12)⟩ (fun hHeld => ?_)
         clear hK K
         refine norm_ (a' := ?_) ?_ ?_
         rotate_left
         · show Act.put _ (some 18) _ = _
           simp only [Act.put, List.setIfInBounds_toArray, List.set_cons_zero, List.set_cons_succ, i64_w, i32_w]
           rfl
         refine pure_ (i := 5) (N := some 19) (v := ?_) (a' := ?_) #[true, true, true, true, true, true, false, false, false, false, false, false, false, false] rfl rfl (any_of HT_.out (by kernel_rfl)) (fun _ _ _ h => h) (Or.inl ⟨by rfl, ?_⟩) ?_ ?_; rotate_left; intro w'; go_simp; with_reducible rfl; rotate_left; simp only [Act.put, List.setIfInBounds_toArray, List.set_cons_zero, List.set_cons_succ, i64_w, i32_w]; rfl
         refine pure_ (i := 6) (N := some 20) (v := undef) (a' := ?_) #[true, true, true, true, true, true, true, false, false, false, false, false, false, false] rfl rfl (any_of HT_.out (by kernel_rfl)) (fun _ _ _ h => h) (Or.inr ⟨by rfl, rfl⟩) ?_ ?_
         rotate_left
         · simp only [Act.put, List.setIfInBounds_toArray, List.set_cons_zero, List.set_cons_succ, i64_w, i32_w]
           rfl
         refine pure_ (i := 7) (N := some 21) (v := undef) (a' := ?_) #[true, true, true, true, true, true, true, true, false, false, false, false, false, false] rfl rfl (any_of HT_.out (by kernel_rfl)) (fun _ _ _ h => h) (Or.inr ⟨by rfl, rfl⟩) ?_ ?_
         rotate_left
         · simp only [Act.put, List.setIfInBounds_toArray, List.set_cons_zero, List.set_cons_succ, i64_w, i32_w]
           rfl
         refine pure_ (i := 8) (N := some 22) (v := undef) (a' := ?_) #[true, true, true, true, true, true, true, true, true, false, false, false, false, false] rfl rfl (any_of HT_.out (by kernel_rfl)) (fun _ _ _ h => h) (Or.inr ⟨by rfl, rfl⟩) ?_ ?_
         rotate_left
         · simp only [Act.put, List.setIfInBounds_toArray, List.set_cons_zero, List.set_cons_succ, i64_w, i32_w]
           rfl
         refine pure_ (i := 9) (N := some 23) (v := undef) (a' := ?_) #[true, true, true, true, true, true, true, true, true, true, false, false, false, false] rfl rfl (any_of HT_.out (by kernel_rfl)) (fun _ _ _ h => h) (Or.inr ⟨by rfl, rfl⟩) ?_ ?_
         rotate_left
         · simp only [Act.put, List.setIfInBounds_toArray, List.set_cons_zero, List.set_cons_succ, i64_w, i32_w]
           rfl
         refine pure_ (i := 10) (N := some 24) (v := undef) (a' := ?_) #[true, true, true, true, true, true, true, true, true, true, true, false, false, false] rfl rfl (any_of HT_.out (by kernel_rfl)) (fun _ _ _ h => h) (Or.inr ⟨by rfl, rfl⟩) ?_ ?_
         rotate_left
         · simp only [Act.put, List.setIfInBounds_toArray, List.set_cons_zero, List.set_cons_succ, i64_w, i32_w]
           rfl
         refine pure_ (i := 11) (N := some 25) (v := undef) (a' := ?_) #[true, true, true, true, true, true, true, true, true, true, true, true, false, false] rfl rfl (any_of HT_.out (by kernel_rfl)) (fun _ _ _ h => h) (Or.inr ⟨by rfl, rfl⟩) ?_ ?_
         rotate_left
         · simp only [Act.put, List.setIfInBounds_toArray, List.set_cons_zero, List.set_cons_succ, i64_w, i32_w]
           rfl
         refine pure_ (i := 12) (N := some 26) (v := undef) (a' := ?_) #[true, true, true, true, true, true, true, true, true, true, true, true, true, false] rfl rfl (any_of HT_.out (by kernel_rfl)) (fun _ _ _ h => h) (Or.inr ⟨by rfl, rfl⟩) ?_ ?_
         rotate_left
         · simp only [Act.put, List.setIfInBounds_toArray, List.set_cons_zero, List.set_cons_succ, i64_w, i32_w]
           rfl
         refine pure_ (i := 13) (N := some 27) (v := ?_) (a' := ?_) #[true, true, true, true, true, true, true, true, true, true, true, true, true, true] rfl rfl (any_of HT_.out (by kernel_rfl)) (fun _ _ _ h => h) (Or.inl ⟨by rfl, ?_⟩) ?_ ?_; rotate_left; intro w'; go_simp; with_reducible rfl; rotate_left; simp only [Act.put, List.setIfInBounds_toArray, List.set_cons_zero, List.set_cons_succ, i64_w, i32_w]; rfl
         refine done_ (done_of HT_.out (by kernel_rfl)) ?_
         try go_wp2
         go_roundg k1
         case measure => have := HK1.out; omega
         case rel => exact ⟨(x5_1), (wrap64 (x6_1 + 1)), (by first | rfl | (simp; done) | (simp [*]; done)), H', ⟨by have := HK1.out; omega⟩, ⟨by (with_reducible repeat (first | apply Kd.R_alloc | apply Kd.R_drewN | apply Kd.R_drew)); exact HO_5.out⟩, ⟨by (with_reducible repeat (first | refine blk_drewN ?_ _ | refine blk_drew ?_ | refine blk_alloc ?_ _)); exact BK432.out⟩, ⟨by repeat (first | (with_reducible first | exact HB.out | apply below_alloc | apply pw_below_drewN | apply below_drew1 | refine below_set ?_ GE432.out) | exact HB.out)⟩⟩
     · rw [if_neg c7] at H
       exact absurd H (by simp)
   · rw [if_neg c6] at H
     have c6b0 : decide (x6_1 < (l0.length : Int)) = false := decide_eq_false c6
     clear c6
     obtain rfl := Option.some.inj H
     go_wp2
     go_ret
     exact ⟨_, by first | rfl | (simp [errW_none, errW_some] <;> rfl) | (simp [*, errW_none, errW_some] <;> rfl), by (with_reducible repeat (first | apply Kd.R_alloc | apply Kd.R_drewN | apply Kd.R_drew)); exact HO_5.out, by repeat (first | (with_reducible first | exact HB.out | apply below_alloc | apply pw_below_drewN | apply below_drew1 | refine below_set ?_ GE432.out) | exact HB.out)⟩

end Go.Proofs.Ytianblmceohmnaa.PAll

namespace Go.Proofs.Ytianblmceohmnaa.PAll
open Go.RowKit Go.Proofs.YtianblmceohmnaaW.PrintWords Go.Proofs.YtianblmceohmnaaW.PrintLast Go.Proofs.YtianblmceohmnaaW.PrintMore
attribute [local go_sem] max2_int min2_int max_two min_two max_three min_three max_four min_four   -- for this text's walks alone
set_option linter.unusedVariables false
set_option linter.unusedSimpArgs false

/-! ### seneschalref17_ended: function 30 -/
def seneschalref17_ended.l0 : Nat → List (S31) → Int → Option (Bool)
 | 0, _, _ => none
 | k + 1, x5, x6 => if x6 < (x5.length : Int) then (if 0 ≤ x6 then (if ((rd_T31 x5 x6).f0) > 2 then (some true) else (seneschalref17_ended.l0 k x5 (wrap64 (x6 + 1)))) else (none)) else (some false)
def seneschalref17_ended.f (k : Nat) (l0 : List (S31)) (a1_0 : Int) (a1_1 : Int) (a1_2 : Int) : Option (Bool) := (seneschalref17_Of.f k l0 a1_0 a1_1 a1_2).bind fun t452 => (seneschalref17_ended.l0 k t452 0)
theorem seneschalref17_ended.mono_l : ∀ k, (∀ y0 y1, LeO (seneschalref17_ended.l0 k y0 y1) (seneschalref17_ended.l0 (k + 1) y0 y1))
 | 0 => fun _ _ r h => by simp [seneschalref17_ended.l0] at h
 | k + 1 => by
  have ih0 := seneschalref17_ended.mono_l k
  · intro y0 y1
    unfold seneschalref17_ended.l0
    repeat' first
    | (with_reducible exact ih0 _ _)
    | (with_reducible exact seneschalref17_Of.mono _ _ _ _ _)
    | (with_reducible exact LeO.refl _)
    | (with_reducible exact LeO.none _)
    | (with_reducible refine LeO.ite ?_ ?_)
    | (with_reducible refine LeO.bind ?_ (fun _ => ?_))
    | exact ih0 _ _
    | exact seneschalref17_Of.mono _ _ _ _ _
    | exact LeO.none _
    | refine LeO.ite ?_ ?_
    | refine LeO.bind ?_ (fun _ => ?_)
theorem seneschalref17_ended.mono : ∀ a0 a1 a2 a3 k, LeO (seneschalref17_ended.f k a0 a1 a2 a3) (seneschalref17_ended.f (k + 1) a0 a1 a2 a3) := by
 intro a0 a1 a2 a3 k
 have ih0 := seneschalref17_ended.mono_l k
 unfold seneschalref17_ended.f
 repeat' first
  | (with_reducible exact ih0 _ _)
  | (with_reducible exact seneschalref17_Of.mono _ _ _ _ _)
  | (with_reducible exact LeO.refl _)
  | (with_reducible exact LeO.none _)
  | (with_reducible refine LeO.ite ?_ ?_)
  | (with_reducible refine LeO.bind ?_ (fun _ => ?_))
  | exact ih0 _ _
  | exact seneschalref17_Of.mono _ _ _ _ _
  | exact LeO.none _
  | refine LeO.ite ?_ ?_
  | refine LeO.bind ?_ (fun _ => ?_)
set_option maxHeartbeats 8000000 in
set_option maxRecDepth 100000 in
theorem seneschalref17_ended.calls (k : Nat) (A0 : Option Addr) (c0 : Nat) (l0 : List (S31)) (a1_0 : Int) (a1_1 : Int) (a1_2 : Int) (r : Bool) (w : World) (hr0 : Kd.C k31 w A0 l0.length l0) (hc0 : l0.length ≤ c0) (h : seneschalref17_ended.f k l0 a1_0 a1_1 a1_2 = some r) :
 Calls Try.prog 30 #[.slice A0 l0.length c0, .agg #[.int .i64 a1_0, .int .i64 a1_1, .int .i64 a1_2]] w fun e w' => e = .returned (.bool r) ∧ Below w.heap.size w w' := by
 have hu24 := Try.underlying24
 have HR0 := Aside0.mk hr0
 have HC0 := Aside0.mk hc0
 clear hr0 hc0
 have HB := Aside0.mk (Below.refl w.heap.size w)
 have H : ((seneschalref17_Of.f k l0 a1_0 a1_1 a1_2).bind fun t452 => (seneschalref17_ended.l0 k t452 0)) = some r := h
 clear h
 replace H := Option.bind_eq_some_iff.mp H
 obtain ⟨t452, A30, H⟩ := H
 replace H : (seneschalref17_ended.l0 k t452 0) = some r := H
 have A3 := Aside0.mk A30
 clear A30
 have H' := Aside0.mk H
 clear H
 go_enter Try.func30, Try.ntmps30
 go_wp2_with (first | ((with_reducible refine gate_dst (N := 3) rfl ?_); refine box_event ?hg (N := 3) ?hd (cs := #[.int .i64 a1_0, .int .i64 a1_1, .int .i64 a1_2]) (t := 24) ?hr ?_; (case hd => rfl); (case hg => rfl); (case hr => first | (go_simp; done) | (go_simp; rfl)); intro gb451 hg w4 hbox hb; have n0_ := Aside0.mk (below_step (by repeat (first | (with_reducible first | exact HB.out | apply below_alloc | apply pw_below_drewN | apply below_drew1) | exact HB.out)) hb); have n1_ := Aside0.mk (hbox); have n2_ := Aside0.mk ((by rw [hg]; exact (below_size (by repeat (first | (with_reducible first | exact HB.out | apply below_alloc | apply pw_below_drewN | apply below_drew1) | exact HB.out))) : w.heap.size ≤ gb451)); have n3_ := Aside0.mk ((by rw [hg]; exact (below_size (by repeat (first | (with_reducible first | exact HB.out | apply below_alloc | apply pw_below_drewN | apply below_drew1) | exact HB.out))) : w.heap.size ≤ gb451)); clear HB; have HB := n0_; have BK451 := n1_; have GW451 := n2_; have GE451 := n3_; clear n0_ n1_ n2_ n3_; clear hb hbox hg; have hcz5_0 : w4.cell? ⟨gb451, 0, none⟩ = some (.int .i64 a1_0) := (blk_cell BK451.out 0).trans rfl; have hcz5_1 : w4.cell? ⟨gb451, 1, none⟩ = some (.int .i64 a1_1) := (blk_cell BK451.out 1).trans rfl; have hcz5_2 : w4.cell? ⟨gb451, 2, none⟩ = some (.int .i64 a1_2) := (blk_cell BK451.out 2).trans rfl; have hfz5_0 := blk_frozen BK451.out 0; have hfz5_1 := blk_frozen BK451.out 1; have hfz5_2 := blk_frozen BK451.out 2) | ((with_reducible refine gate_callee (f := 11) rfl ?_); refine goesL_ (some 9) rfl rfl Try.func11 (by kernel_rfl) rfl #[.slice A0 l0.length c0, .agg #[.int .i64 a1_0, .int .i64 a1_1, .int .i64 a1_2]] rfl (by (try simp only [List.map_toArray, List.map_cons, List.map_nil]); first | done | rfl | (simp only [List.length_drop, List.length_take]; rfl)) ?_; (with_reducible refine (seneschalref17_Of.calls k _ _ l0 a1_0 a1_1 a1_2 t452 _ ?side1 ?side2 A3.out).mono ?_); (case side1 => repeat (first | exact (Kd.C_below HR0.out HB.out) | (with_reducible refine Kd.C_alloc ?_ _) | (with_reducible refine Kd.C_drewN ?_ _) | (with_reducible refine Kd.C_drew ?_))); (case side2 => exact HC0.out); rintro e w6 ⟨v453, rfl, ho0, hb⟩; refine ⟨_, rfl, ?_⟩; have n0_ := Aside0.mk (Kd.R_lower ho0 (below_size (by repeat (first | (with_reducible first | exact HB.out | apply below_alloc | apply pw_below_drewN | apply below_drew1 | refine below_set ?_ GE451.out) | exact HB.out)))); have n1_ := Aside0.mk (blk_below (g := gb451) (o := .cells #[.int .i64 a1_0, .int .i64 a1_1, .int .i64 a1_2] 24 (0, 0)) (by (with_reducible repeat (first | refine blk_drewN ?_ _ | refine blk_drew ?_ | refine blk_alloc ?_ _)); exact BK451.out) hb); have n2_ := Aside0.mk (below_step (by repeat (first | (with_reducible first | exact HB.out | apply below_alloc | apply pw_below_drewN | apply below_drew1 | refine below_set ?_ GE451.out) | exact HB.out)) hb); clear BK451; clear HB; have HO454 := n0_; have BK451 := n1_; have HB := n2_; clear n0_ n1_ n2_; (try clear hb); (try clear hb2); (try clear hk); (try clear hi); (try clear ho0)))
 go_loopg [6] k (fun kq v6 w' => ∃ (x6_1 : Int), v6 = .int .i64 x6_1 ∧ Aside0 (seneschalref17_ended.l0 kq t452 x6_1 = some r) ∧ Aside0 (kq ≤ k) ∧ Aside0 (Kd.R k31 31 w' w.heap.size (fun _ => True) v453 t452) ∧ Aside0 (w'.heap[gb451]? = some (.cells #[.int .i64 a1_0, .int .i64 a1_1, .int .i64 a1_2] 24 (0, 0))) ∧ Aside0 (Below w.heap.size w w'))
 case atStart => exact ⟨(0), (by first | rfl | (simp; done) | (simp [*]; done)), H', ⟨Nat.le_refl _⟩, ⟨by (with_reducible repeat (first | apply Kd.R_alloc | apply Kd.R_drewN | apply Kd.R_drew)); exact HO454.out⟩, ⟨by (with_reducible repeat (first | refine blk_drewN ?_ _ | refine blk_drew ?_ | refine blk_alloc ?_ _)); exact BK451.out⟩, ⟨by repeat (first | (with_reducible first | exact HB.out | apply below_alloc | apply pw_below_drewN | apply below_drew1 | refine below_set ?_ GE451.out) | exact HB.out)⟩⟩
 case round =>
  clear H'
  try clear c1
  try clear p2
  try clear c3
  try clear hcz5_0
  try clear hcz5_1
  try clear hcz5_2
  try clear hfz5_0
  try clear hfz5_1
  try clear hfz5_2
  obtain ⟨x6_1, rfl, HA, HK1, HO_5, BK451, HB⟩ := hrel
  cases gk with
  | zero => exact absurd HA.out (by simp [seneschalref17_ended.l0])
  | succ k1 =>
   have H := HA.out
   clear HA
   simp only [seneschalref17_ended.l0] at H
   by_cases c7 : x6_1 < (t452.length : Int)
   · rw [if_pos c7] at H
     have c7b0 : decide (x6_1 < (t452.length : Int)) = true := decide_eq_true c7
     clear c7
     by_cases c8 : 0 ≤ x6_1
     · rw [if_pos c8] at H
       have c8b0 : decide (0 ≤ x6_1) = true := decide_eq_true c8
       clear c8
       by_cases c9 : ((rd_T31 t452 x6_1).f0) > 2
       · rw [if_pos c9] at H
         have c9b0 : decide (2 < ((rd_T31 t452 x6_1).f0)) = true := decide_eq_true c9
         clear c9
         obtain rfl := Option.some.inj H
         obtain ⟨Ao10, co10, eo10⟩ := Kd.R_slice HO_5.out
         subst eo10
         have p455 : 0 ≤ (x6_1 : Int) := of_decide_eq_true (by first | (with_reducible assumption) | assumption)
         have q455 : x6_1 < (t452.length : Int) := of_decide_eq_true (by first | (with_reducible assumption) | assumption)
         obtain ⟨ad455, e455, hx455_0, hx455_1, hx455_2, hx455_3, hx455_4, hx455_5, hx455_6, hx455_7, hx455_8, hx455_9, hx455_10, hx455_11, hx455_12⟩ := at_T31 (Kd.R_reads' HO_5.out).2.2 x6_1 p455 q455
         cases e455
         replace p455 := eq_true p455
         replace q455 := eq_true q455
         go_wp2
         go_ret
         exact ⟨by first | rfl | (simp [errW_none, errW_some] <;> rfl) | (simp [*, errW_none, errW_some] <;> rfl), by repeat (first | (with_reducible first | exact HB.out | apply below_alloc | apply pw_below_drewN | apply below_drew1 | refine below_set ?_ GE451.out) | exact HB.out)⟩
       · rw [if_neg c9] at H
         have c9b0 : decide (2 < ((rd_T31 t452 x6_1).f0)) = false := decide_eq_false c9
         clear c9
         have H' := Aside0.mk H
         clear H
         obtain ⟨Ao11, co11, eo11⟩ := Kd.R_slice HO_5.out
         subst eo11
         have p455 : 0 ≤ (x6_1 : Int) := of_decide_eq_true (by first | (with_reducible assumption) | assumption)
         have q455 : x6_1 < (t452.length : Int) := of_decide_eq_true (by first | (with_reducible assumption) | assumption)
         obtain ⟨ad455, e455, hx455_0, hx455_1, hx455_2, hx455_3, hx455_4, hx455_5, hx455_6, hx455_7, hx455_8, hx455_9, hx455_10, hx455_11, hx455_12⟩ := at_T31 (Kd.R_reads' HO_5.out).2.2 x6_1 p455 q455
         cases e455
         replace p455 := eq_true p455
         replace q455 := eq_true q455
         go_wp2
         go_roundg k1
         case measure => have := HK1.out; omega
         case rel => exact ⟨(wrap64 (x6_1 + 1)), (by first | rfl | (simp; done) | (simp [*]; done)), H', ⟨by have := HK1.out; omega⟩, ⟨by (with_reducible repeat (first | apply Kd.R_alloc | apply Kd.R_drewN | apply Kd.R_drew)); exact HO_5.out⟩, ⟨by (with_reducible repeat (first | refine blk_drewN ?_ _ | refine blk_drew ?_ | refine blk_alloc ?_ _)); exact BK451.out⟩, ⟨by repeat (first | (with_reducible first | exact HB.out | apply below_alloc | apply pw_below_drewN | apply below_drew1 | refine below_set ?_ GE451.out) | exact HB.out)⟩⟩
     · rw [if_neg c8] at H
       exact absurd H (by simp)
   · rw [if_neg c7] at H
     have c7b0 : decide (x6_1 < (t452.length : Int)) = false := decide_eq_false c7
     clear c7
     obtain rfl := Option.some.inj H
     obtain ⟨Ao12, co12, eo12⟩ := Kd.R_slice HO_5.out
     subst eo12
     go_wp2
     go_ret
     exact ⟨by first | rfl | (simp [errW_none, errW_some] <;> rfl) | (simp [*, errW_none, errW_some] <;> rfl), by repeat (first | (with_reducible first | exact HB.out | apply below_alloc | apply pw_below_drewN | apply below_drew1 | refine below_set ?_ GE451.out) | exact HB.out)⟩

/-! ### seneschalref17_Less: function 31 -/
def seneschalref17_Less.f (a0_0 : Int) (a0_1 : Int) (a0_2 : Int) (a1_0 : Int) (a1_1 : Int) (a1_2 : Int) : Option (Bool) := if a0_0 = a1_0 then (if a0_1 = a1_1 then (some (decide (a0_2 < a1_2))) else (some (decide (a0_1 < a1_1)))) else (some (decide (a0_0 < a1_0)))
set_option maxHeartbeats 8000000 in
set_option maxRecDepth 100000 in
theorem seneschalref17_Less.calls (a0_0 : Int) (a0_1 : Int) (a0_2 : Int) (a1_0 : Int) (a1_1 : Int) (a1_2 : Int) (r : Bool) (w : World) (h : seneschalref17_Less.f a0_0 a0_1 a0_2 a1_0 a1_1 a1_2 = some r) :
 Calls Try.prog 31 #[.agg #[.int .i64 a0_0, .int .i64 a0_1, .int .i64 a0_2], .agg #[.int .i64 a1_0, .int .i64 a1_1, .int .i64 a1_2]] w fun e w' => e = .returned (.bool r) ∧ Below w.heap.size w w' := by
 have hu24 := Try.underlying24
 have HB := Aside0.mk (Below.refl w.heap.size w)
 have H : (if a0_0 = a1_0 then (if a0_1 = a1_1 then (some (decide (a0_2 < a1_2))) else (some (decide (a0_1 < a1_1)))) else (some (decide (a0_0 < a1_0)))) = some r := h
 clear h
 by_cases c3 : a0_0 = a1_0
 · rw [if_pos c3] at H
   have c3b0 : (a0_0 == a1_0) = true := beq_iff_eq.mpr c3
   have c3b1 : (a0_0 != a1_0) = false := bne_eq_false_iff_eq.mpr c3
   clear c3
   by_cases c4 : a0_1 = a1_1
   · rw [if_pos c4] at H
     have c4b0 : (a0_1 == a1_1) = true := beq_iff_eq.mpr c4
     have c4b1 : (a0_1 != a1_1) = false := bne_eq_false_iff_eq.mpr c4
     clear c4
     obtain rfl := Option.some.inj H
     go_enter Try.func31, Try.ntmps31
     go_wp2_with (first | ((with_reducible refine gate_dst (N := 2) rfl ?_); refine box_event ?hg (N := 2) ?hd (cs := #[.int .i64 a0_0, .int .i64 a0_1, .int .i64 a0_2]) (t := 24) ?hr ?_; (case hd => rfl); (case hg => rfl); (case hr => first | (go_simp; done) | (go_simp; rfl)); intro gb456 hg w5 hbox hb; have n0_ := Aside0.mk (below_step (by repeat (first | (with_reducible first | exact HB.out | apply below_alloc | apply pw_below_drewN | apply below_drew1) | exact HB.out)) hb); have n1_ := Aside0.mk (hbox); have n2_ := Aside0.mk ((by rw [hg]; exact (below_size (by repeat (first | (with_reducible first | exact HB.out | apply below_alloc | apply pw_below_drewN | apply below_drew1) | exact HB.out))) : w.heap.size ≤ gb456)); have n3_ := Aside0.mk ((by rw [hg]; exact (below_size (by repeat (first | (with_reducible first | exact HB.out | apply below_alloc | apply pw_below_drewN | apply below_drew1) | exact HB.out))) : w.heap.size ≤ gb456)); clear HB; have HB := n0_; have BK456 := n1_; have GW456 := n2_; have GE456 := n3_; clear n0_ n1_ n2_ n3_; clear hb hbox hg) | ((with_reducible refine gate_dst (N := 3) rfl ?_); refine box_event ?hg (N := 3) ?hd (cs := #[.int .i64 a1_0, .int .i64 a1_1, .int .i64 a1_2]) (t := 24) ?hr ?_; (case hd => rfl); (case hg => rfl); (case hr => first | (go_simp; done) | (go_simp; rfl)); intro gb457 hg w6 hbox hb; have n0_ := Aside0.mk (blk_below (g := gb456) (o := .cells #[.int .i64 a0_0, .int .i64 a0_1, .int .i64 a0_2] 24 (0, 0)) (by (with_reducible repeat (first | refine blk_drewN ?_ _ | refine blk_drew ?_ | refine blk_alloc ?_ _)); exact BK456.out) hb); have n1_ := Aside0.mk (below_step (by repeat (first | (with_reducible first | exact HB.out | apply below_alloc | apply pw_below_drewN | apply below_drew1 | refine below_set ?_ GE456.out) | exact HB.out)) hb); have n2_ := Aside0.mk (hbox); have n3_ := Aside0.mk ((by rw [hg]; exact (below_size (by repeat (first | (with_reducible first | exact HB.out | apply below_alloc | apply pw_below_drewN | apply below_drew1 | refine below_set ?_ GE456.out) | exact HB.out))) : w.heap.size ≤ gb457)); have n4_ := Aside0.mk ((by rw [hg]; exact (below_size (by repeat (first | (with_reducible first | exact HB.out | apply below_alloc | apply pw_below_drewN | apply below_drew1 | refine below_set ?_ GE456.out) | exact HB.out))) : w.heap.size ≤ gb457)); have n5_ := Aside0.mk ((by rw [hg]; exact Nat.ne_of_lt (blk_lt (g := gb456) (o := .cells #[.int .i64 a0_0, .int .i64 a0_1, .int .i64 a0_2] 24 (0, 0)) (by (with_reducible repeat (first | refine blk_drewN ?_ _ | refine blk_drew ?_ | refine blk_alloc ?_ _)); exact BK456.out)) : gb456 ≠ gb457)); have n6_ := Aside0.mk ((by rw [hg]; exact Nat.ne_of_gt (blk_lt (g := gb456) (o := .cells #[.int .i64 a0_0, .int .i64 a0_1, .int .i64 a0_2] 24 (0, 0)) (by (with_reducible repeat (first | refine blk_drewN ?_ _ | refine blk_drew ?_ | refine blk_alloc ?_ _)); exact BK456.out)) : gb457 ≠ gb456)); clear BK456; clear HB; have BK456 := n0_; have HB := n1_; have BK457 := n2_; have GW457 := n3_; have GE457 := n4_; have NB456_457 := n5_; have NB457_456 := n6_; clear n0_ n1_ n2_ n3_ n4_ n5_ n6_; clear hb hbox hg; have hnb7 := NB456_457.out; have hnc7 := NB457_456.out; have hcz8_0 : w6.cell? ⟨gb456, 0, none⟩ = some (.int .i64 a0_0) := (blk_cell BK456.out 0).trans rfl; have hcz8_1 : w6.cell? ⟨gb456, 1, none⟩ = some (.int .i64 a0_1) := (blk_cell BK456.out 1).trans rfl; have hcz8_2 : w6.cell? ⟨gb456, 2, none⟩ = some (.int .i64 a0_2) := (blk_cell BK456.out 2).trans rfl; have hfz8_0 := blk_frozen BK456.out 0; have hfz8_1 := blk_frozen BK456.out 1; have hfz8_2 := blk_frozen BK456.out 2; have hcz9_0 : w6.cell? ⟨gb457, 0, none⟩ = some (.int .i64 a1_0) := (blk_cell BK457.out 0).trans rfl; have hcz9_1 : w6.cell? ⟨gb457, 1, none⟩ = some (.int .i64 a1_1) := (blk_cell BK457.out 1).trans rfl; have hcz9_2 : w6.cell? ⟨gb457, 2, none⟩ = some (.int .i64 a1_2) := (blk_cell BK457.out 2).trans rfl; have hfz9_0 := blk_frozen BK457.out 0; have hfz9_1 := blk_frozen BK457.out 1; have hfz9_2 := blk_frozen BK457.out 2))
     go_ret
     exact ⟨by first | rfl | (simp [errW_none, errW_some] <;> rfl) | (simp [*, errW_none, errW_some] <;> rfl), by repeat (first | (with_reducible first | exact HB.out | apply below_alloc | apply pw_below_drewN | apply below_drew1 | refine below_set ?_ GE456.out | refine below_set ?_ GE457.out) | exact HB.out)⟩
   · rw [if_neg c4] at H
     have c4b0 : (a0_1 == a1_1) = false := beq_eq_false_iff_ne.mpr c4
     have c4b1 : (a0_1 != a1_1) = true := bne_iff_ne.mpr c4
     obtain rfl := Option.some.inj H
     go_enter Try.func31, Try.ntmps31
     go_wp2_with (first | ((with_reducible refine gate_dst (N := 2) rfl ?_); refine box_event ?hg (N := 2) ?hd (cs := #[.int .i64 a0_0, .int .i64 a0_1, .int .i64 a0_2]) (t := 24) ?hr ?_; (case hd => rfl); (case hg => rfl); (case hr => first | (go_simp; done) | (go_simp; rfl)); intro gb456 hg w10 hbox hb; have n0_ := Aside0.mk (below_step (by repeat (first | (with_reducible first | exact HB.out | apply below_alloc | apply pw_below_drewN | apply below_drew1) | exact HB.out)) hb); have n1_ := Aside0.mk (hbox); have n2_ := Aside0.mk ((by rw [hg]; exact (below_size (by repeat (first | (with_reducible first | exact HB.out | apply below_alloc | apply pw_below_drewN | apply below_drew1) | exact HB.out))) : w.heap.size ≤ gb456)); have n3_ := Aside0.mk ((by rw [hg]; exact (below_size (by repeat (first | (with_reducible first | exact HB.out | apply below_alloc | apply pw_below_drewN | apply below_drew1) | exact HB.out))) : w.heap.size ≤ gb456)); clear HB; have HB := n0_; have BK456 := n1_; have GW456 := n2_; have GE456 := n3_; clear n0_ n1_ n2_ n3_; clear hb hbox hg) | ((with_reducible refine gate_dst (N := 3) rfl ?_); refine box_event ?hg (N := 3) ?hd (cs := #[.int .i64 a1_0, .int .i64 a1_1, .int .i64 a1_2]) (t := 24) ?hr ?_; (case hd => rfl); (case hg => rfl); (case hr => first | (go_simp; done) | (go_simp; rfl)); intro gb457 hg w11 hbox hb; have n0_ := Aside0.mk (blk_below (g := gb456) (o := .cells #[.int .i64 a0_0, .int .i64 a0_1, .int .i64 a0_2] 24 (0, 0)) (by (with_reducible repeat (first | refine blk_drewN ?_ _ | refine blk_drew ?_ | refine blk_alloc ?_ _)); exact BK456.out) hb); have n1_ := Aside0.mk (below_step (by repeat (first | (with_reducible first | exact HB.out | apply below_alloc | apply pw_below_drewN | apply below_drew1 | refine below_set ?_ GE456.out) | exact HB.out)) hb); have n2_ := Aside0.mk (hbox); have n3_ := Aside0.mk ((by rw [hg]; exact (below_size (by repeat (first | (with_reducible first | exact HB.out | apply below_alloc | apply pw_below_drewN | apply below_drew1 | refine below_set ?_ GE456.out) | exact HB.out))) : w.heap.size ≤ gb457)); have n4_ := Aside0.mk ((by rw [hg]; exact (below_size (by repeat (first | (with_reducible first | exact HB.out | apply below_alloc | apply pw_below_drewN | apply below_drew1 | refine below_set ?_ GE456.out) | exact HB.out))) : w.heap.size ≤ gb457)); have n5_ := Aside0.mk ((by rw [hg]; exact Nat.ne_of_lt (blk_lt (g := gb456) (o := .cells #[.int .i64 a0_0, .int .i64 a0_1, .int .i64 a0_2] 24 (0, 0)) (by (with_reducible repeat (first | refine blk_drewN ?_ _ | refine blk_drew ?_ | refine blk_alloc ?_ _)); exact BK456.out)) : gb456 ≠ gb457)); have n6_ := Aside0.mk ((by rw [hg]; exact Nat.ne_of_gt (blk_lt (g := gb456) (o := .cells #[.int .i64 a0_0, .int .i64 a0_1, .int .i64 a0_2] 24 (0, 0)) (by (with_reducible repeat (first | refine blk_drewN ?_ _ | refine blk_drew ?_ | refine blk_alloc ?_ _)); exact BK456.out)) : gb457 ≠ gb456)); clear BK456; clear HB; have BK456 := n0_; have HB := n1_; have BK457 := n2_; have GW457 := n3_; have GE457 := n4_; have NB456_457 := n5_; have NB457_456 := n6_; clear n0_ n1_ n2_ n3_ n4_ n5_ n6_; clear hb hbox hg; have hnb12 := NB456_457.out; have hnc12 := NB457_456.out; have hcz13_0 : w11.cell? ⟨gb456, 0, none⟩ = some (.int .i64 a0_0) := (blk_cell BK456.out 0).trans rfl; have hcz13_1 : w11.cell? ⟨gb456, 1, none⟩ = some (.int .i64 a0_1) := (blk_cell BK456.out 1).trans rfl; have hcz13_2 : w11.cell? ⟨gb456, 2, none⟩ = some (.int .i64 a0_2) := (blk_cell BK456.out 2).trans rfl; have hfz13_0 := blk_frozen BK456.out 0; have hfz13_1 := blk_frozen BK456.out 1; have hfz13_2 := blk_frozen BK456.out 2; have hcz14_0 : w11.cell? ⟨gb457, 0, none⟩ = some (.int .i64 a1_0) := (blk_cell BK457.out 0).trans rfl; have hcz14_1 : w11.cell? ⟨gb457, 1, none⟩ = some (.int .i64 a1_1) := (blk_cell BK457.out 1).trans rfl; have hcz14_2 : w11.cell? ⟨gb457, 2, none⟩ = some (.int .i64 a1_2) := (blk_cell BK457.out 2).trans rfl; have hfz14_0 := blk_frozen BK457.out 0; have hfz14_1 := blk_frozen BK457.out 1; have hfz14_2 := blk_frozen BK457.out 2))
     go_ret
     exact ⟨by first | rfl | (simp [errW_none, errW_some] <;> rfl) | (simp [*, errW_none, errW_some] <;> rfl), by repeat (first | (with_reducible first | exact HB.out | apply below_alloc | apply pw_below_drewN | apply below_drew1 | refine below_set ?_ GE456.out | refine below_set ?_ GE457.out) | exact HB.out)⟩
 · rw [if_neg c3] at H
   have c3b0 : (a0_0 == a1_0) = false := beq_eq_false_iff_ne.mpr c3
   have c3b1 : (a0_0 != a1_0) = true := bne_iff_ne.mpr c3
   obtain rfl := Option.some.inj H
   go_enter Try.func31, Try.ntmps31
   go_wp2_with (first | ((with_reducible refine gate_dst (N := 2) rfl ?_); refine box_event ?hg (N := 2) ?hd (cs := #[.int .i64 a0_0, .int .i64 a0_1, .int .i64 a0_2]) (t := 24) ?hr ?_; (case hd => rfl); (case hg => rfl); (case hr => first | (go_simp; done) | (go_simp; rfl)); intro gb456 hg w15 hbox hb; have n0_ := Aside0.mk (below_step (by repeat (first | (with_reducible first | exact HB.out | apply below_alloc | apply pw_below_drewN | apply below_drew1) | exact HB.out)) hb); have n1_ := Aside0.mk (hbox); have n2_ := Aside0.mk ((by rw [hg]; exact (below_size (by repeat (first | (with_reducible first | exact HB.out | apply below_alloc | apply pw_below_drewN | apply below_drew1) | exact HB.out))) : w.heap.size ≤ gb456)); have n3_ := Aside0.mk ((by rw [hg]; exact (below_size (by repeat (first | (with_reducible first | exact HB.out | apply below_alloc | apply pw_below_drewN | apply below_drew1) | exact HB.out))) : w.heap.size ≤ gb456)); clear HB; have HB := n0_; have BK456 := n1_; have GW456 := n2_; have GE456 := n3_; clear n0_ n1_ n2_ n3_; clear hb hbox hg) | ((with_reducible refine gate_dst (N := 3) rfl ?_); refine box_event ?hg (N := 3) ?hd (cs := #[.int .i64 a1_0, .int .i64 a1_1, .int .i64 a1_2]) (t := 24) ?hr ?_; (case hd => rfl); (case hg => rfl); (case hr => first | (go_simp; done) | (go_simp; rfl)); intro gb457 hg w16 hbox hb; have n0_ := Aside0.mk (blk_below (g := gb456) (o := .cells #[.int .i64 a0_0, .int .i64 a0_1, .int .i64 a0_2] 24 (0, 0)) (by (with_reducible repeat (first | refine blk_drewN ?_ _ | refine blk_drew ?_ | refine blk_alloc ?_ _)); exact BK456.out) hb); have n1_ := Aside0.mk (below_step (by repeat (first | (with_reducible first | exact HB.out | apply below_alloc | apply pw_below_drewN | apply below_drew1 | refine below_set ?_ GE456.out) | exact HB.out)) hb); have n2_ := Aside0.mk (hbox); have n3_ := Aside0.mk ((by rw [hg]; exact (below_size (by repeat (first | (with_reducible first | exact HB.out | apply below_alloc | apply pw_below_drewN | apply below_drew1 | refine below_set ?_ GE456.out) | exact HB.out))) : w.heap.size ≤ gb457)); have n4_ := Aside0.mk ((by rw [hg]; exact (below_size (by repeat (first | (with_reducible first | exact HB.out | apply below_alloc | apply pw_below_drewN | apply below_drew1 | refine below_set ?_ GE456.out) | exact HB.out))) : w.heap.size ≤ gb457)); have n5_ := Aside0.mk ((by rw [hg]; exact Nat.ne_of_lt (blk_lt (g := gb456) (o := .cells #[.int .i64 a0_0, .int .i64 a0_1, .int .i64 a0_2] 24 (0, 0)) (by (with_reducible repeat (first | refine blk_drewN ?_ _ | refine blk_drew ?_ | refine blk_alloc ?_ _)); exact BK456.out)) : gb456 ≠ gb457)); have n6_ := Aside0.mk ((by rw [hg]; exact Nat.ne_of_gt (blk_lt (g := gb456) (o := .cells #[.int .i64 a0_0, .int .i64 a0_1, .int .i64 a0_2] 24 (0, 0)) (by (with_reducible repeat (first | refine blk_drewN ?_ _ | refine blk_drew ?_ | refine blk_alloc ?_ _)); exact BK456.out)) : gb457 ≠ gb456)); clear BK456; clear HB; have BK456 := n0_; have HB := n1_; have BK457 := n2_; have GW457 := n3_; have GE457 := n4_; have NB456_457 := n5_; have NB457_456 := n6_; clear n0_ n1_ n2_ n3_ n4_ n5_ n6_; clear hb hbox hg; have hnb17 := NB456_457.out; have hnc17 := NB457_456.out; have hcz18_0 : w16.cell? ⟨gb456, 0, none⟩ = some (.int .i64 a0_0) := (blk_cell BK456.out 0).trans rfl; have hcz18_1 : w16.cell? ⟨gb456, 1, none⟩ = some (.int .i64 a0_1) := (blk_cell BK456.out 1).trans rfl; have hcz18_2 : w16.cell? ⟨gb456, 2, none⟩ = some (.int .i64 a0_2) := (blk_cell BK456.out 2).trans rfl; have hfz18_0 := blk_frozen BK456.out 0; have hfz18_1 := blk_frozen BK456.out 1; have hfz18_2 := blk_frozen BK456.out 2; have hcz19_0 : w16.cell? ⟨gb457, 0, none⟩ = some (.int .i64 a1_0) := (blk_cell BK457.out 0).trans rfl; have hcz19_1 : w16.cell? ⟨gb457, 1, none⟩ = some (.int .i64 a1_1) := (blk_cell BK457.out 1).trans rfl; have hcz19_2 : w16.cell? ⟨gb457, 2, none⟩ = some (.int .i64 a1_2) := (blk_cell BK457.out 2).trans rfl; have hfz19_0 := blk_frozen BK457.out 0; have hfz19_1 := blk_frozen BK457.out 1; have hfz19_2 := blk_frozen BK457.out 2))
   go_ret
   exact ⟨by first | rfl | (simp [errW_none, errW_some] <;> rfl) | (simp [*, errW_none, errW_some] <;> rfl), by repeat (first | (with_reducible first | exact HB.out | apply below_alloc | apply pw_below_drewN | apply below_drew1 | refine below_set ?_ GE456.out | refine below_set ?_ GE457.out) | exact HB.out)⟩


end Go.Proofs.Ytianblmceohmnaa.PAll
