-- Written by scripts/standin.py (the kit's print with stand-ins) for this claim.
import Derived.Test.YtianblmceohmnaaPAllx0
import Derived.Test.YtianblmceohmnaaPAllx4
import Derived.Test.YtianblmceohmnaaPAllx15
import Derived.Test.YtianblmceohmnaaPAllx17
namespace Go.Proofs.Ytianblmceohmnaa.PAll
open Go.RowKit Go.Proofs.YtianblmceohmnaaW.PrintWords Go.Proofs.YtianblmceohmnaaW.PrintLast Go.Proofs.YtianblmceohmnaaW.PrintMore
attribute [local go_sem] max2_int min2_int max_two min_two max_three min_three max_four min_four   -- for this text's walks alone
set_option linter.unusedVariables false
set_option linter.unusedSimpArgs false

attribute [local go_sem high] eqA43
/-! ### seneschallaw17_PastNeeds: function 5 -/
mutual
def seneschallaw17_PastNeeds.j0 : Nat → List (S31) → Int → Int → Bool → List (S43) → List (S24) → List (S45) → Option (Bool)
  | 0, _, _, _, _, _, _, _ => none
  | k + 1, x0, x1, x5, x41, x319000, x319001, x319002 => if x41 = true then (some false) else (if 0 ≤ (wrap64 (x5 - x1)) then (if (wrap64 (x5 - x1)) ≤ (x0.length : Int) then ((past_Read.f (x0.drop ((wrap64 (x5 - x1)) : Int).toNat) x5).bind fun bt323 => (if (x319000.length : Int) = 0 then (seneschallaw17_PastNeeds.j1 k true x319000 x319001 x319002 bt323.1 bt323.2.1 bt323.2.2) else (seneschallaw17_PastNeeds.j1 k (decide ((bt323.1.length : Int) < (x319000.length : Int))) x319000 x319001 x319002 bt323.1 bt323.2.1 bt323.2.2))) else (none)) else (none))
def seneschallaw17_PastNeeds.j1 : Nat → Bool → List (S43) → List (S24) → List (S45) → List (S43) → List (S24) → List (S45) → Option (Bool)
  | 0, _, _, _, _, _, _, _ => none
  | k + 1, x61, x319000, x319001, x319002, x333000, x333001, x333002 => if x61 = true then (some false) else (seneschallaw17_PastNeeds.l0 k 0 0 x319000 x319001 x319002 x333000 x333001 x333002)
def seneschallaw17_PastNeeds.l0 : Nat → Int → Int → List (S43) → List (S24) → List (S45) → List (S43) → List (S24) → List (S45) → Option (Bool)
  | 0, _, _, _, _, _, _, _, _ => none
  | k + 1, x8, x9, x319000, x319001, x319002, x333000, x333001, x333002 => if x9 < (x333000.length : Int) then (seneschallaw17_PastNeeds.j3 k x8 x9 (decide (x8 < (x319000.length : Int))) x319000 x319001 x319002 x333000 x333001 x333002) else (seneschallaw17_PastNeeds.j3 k x8 x9 false x319000 x319001 x319002 x333000 x333001 x333002)
def seneschallaw17_PastNeeds.j3 : Nat → Int → Int → Bool → List (S43) → List (S24) → List (S45) → List (S43) → List (S24) → List (S45) → Option (Bool)
  | 0, _, _, _, _, _, _, _, _, _ => none
  | k + 1, x8, x9, x73, x319000, x319001, x319002, x333000, x333001, x333002 => if x73 = true then (if 0 ≤ x9 then (if x9 < (x333000.length : Int) then (if 0 ≤ x8 then (if x8 < (x319000.length : Int) then (if ((((rd_T43 x333000 x9).f0.f0) == ((rd_T43 x319000 x8).f0.f0) && (((rd_T43 x333000 x9).f0.f1) == ((rd_T43 x319000 x8).f0.f1) && (((rd_T43 x333000 x9).f0.f2) == ((rd_T43 x319000 x8).f0.f2)))) && (((rd_T43 x333000 x9).f1) == ((rd_T43 x319000 x8).f1))) = true then (seneschallaw17_PastNeeds.l0 k (wrap64 (x8 + 1)) (wrap64 (x9 + 1)) x319000 x319001 x319002 x333000 x333001 x333002) else (seneschallaw17_PastNeeds.l0 k x8 (wrap64 (x9 + 1)) x319000 x319001 x319002 x333000 x333001 x333002)) else (none)) else (none)) else (none)) else (none)) else (some (x8 == (x319000.length : Int)))
end
def seneschallaw17_PastNeeds.f (k : Nat) (l0 : List (S31)) (a1 : Int) : Option (Bool) := (seneschallaw17_awake.f).bind fun t306 => (if t306 = true then ((seneschallaw17_great.f k l0).bind fun t307 => (if t307 = true then (some true) else ((past_Needed.f l0 (wrap64 (1 + (wrap64 (Int.tmod (IntKind.u64.wrap (a1)) 1000))))).bind fun t308 => ((past_Read.f l0 (wrap64 (1 + (wrap64 (Int.tmod (IntKind.u64.wrap (a1)) 1000))))).bind fun bt309 => (if t308 = 0 then (some ((bt309.1.length : Int) == 0)) else (if t308 < (wrap64 (1 + (wrap64 (Int.tmod (IntKind.u64.wrap (a1)) 1000)))) then (seneschallaw17_PastNeeds.j0 k l0 (wrap64 (1 + (wrap64 (Int.tmod (IntKind.u64.wrap (a1)) 1000)))) t308 true bt309.1 bt309.2.1 bt309.2.2) else (seneschallaw17_PastNeeds.j0 k l0 (wrap64 (1 + (wrap64 (Int.tmod (IntKind.u64.wrap (a1)) 1000)))) t308 (decide ((wrap64 (t308 - (wrap64 (1 + (wrap64 (Int.tmod (IntKind.u64.wrap (a1)) 1000)))))) ≥ (l0.length : Int))) bt309.1 bt309.2.1 bt309.2.2))))))) else (some false))
theorem seneschallaw17_PastNeeds.mono_l : ∀ k, (∀ y0 y1 y2 y3 y4 y5 y6, LeO (seneschallaw17_PastNeeds.j0 k y0 y1 y2 y3 y4 y5 y6) (seneschallaw17_PastNeeds.j0 (k + 1) y0 y1 y2 y3 y4 y5 y6)) ∧ (∀ y0 y1 y2 y3 y4 y5 y6, LeO (seneschallaw17_PastNeeds.j1 k y0 y1 y2 y3 y4 y5 y6) (seneschallaw17_PastNeeds.j1 (k + 1) y0 y1 y2 y3 y4 y5 y6)) ∧ (∀ y0 y1 y2 y3 y4 y5 y6 y7, LeO (seneschallaw17_PastNeeds.l0 k y0 y1 y2 y3 y4 y5 y6 y7) (seneschallaw17_PastNeeds.l0 (k + 1) y0 y1 y2 y3 y4 y5 y6 y7)) ∧ (∀ y0 y1 y2 y3 y4 y5 y6 y7 y8, LeO (seneschallaw17_PastNeeds.j3 k y0 y1 y2 y3 y4 y5 y6 y7 y8) (seneschallaw17_PastNeeds.j3 (k + 1) y0 y1 y2 y3 y4 y5 y6 y7 y8))
  | 0 => ⟨fun _ _ _ _ _ _ _ r h => by simp [seneschallaw17_PastNeeds.j0] at h, fun _ _ _ _ _ _ _ r h => by simp [seneschallaw17_PastNeeds.j1] at h, fun _ _ _ _ _ _ _ _ r h => by simp [seneschallaw17_PastNeeds.l0] at h, fun _ _ _ _ _ _ _ _ _ r h => by simp [seneschallaw17_PastNeeds.j3] at h⟩
  | k + 1 => by
    obtain ⟨ih0, ih1, ih2, ih3⟩ := seneschallaw17_PastNeeds.mono_l k
    refine ⟨?_, ?_, ?_, ?_⟩
    · intro y0 y1 y2 y3 y4 y5 y6
      unfold seneschallaw17_PastNeeds.j0
      repeat' first
      | (with_reducible exact ih0 _ _ _ _ _ _ _)
      | (with_reducible exact ih1 _ _ _ _ _ _ _)
      | (with_reducible exact ih2 _ _ _ _ _ _ _ _)
      | (with_reducible exact ih3 _ _ _ _ _ _ _ _ _)
      | (with_reducible exact seneschallaw17_great.mono _ _)
      | (with_reducible exact LeO.refl _)
      | (with_reducible exact LeO.none _)
      | (with_reducible refine LeO.ite ?_ ?_)
      | (with_reducible refine LeO.bind ?_ (fun _ => ?_))
      | exact ih0 _ _ _ _ _ _ _
      | exact ih1 _ _ _ _ _ _ _
      | exact ih2 _ _ _ _ _ _ _ _
      | exact ih3 _ _ _ _ _ _ _ _ _
      | exact seneschallaw17_great.mono _ _
      | exact LeO.none _
      | refine LeO.ite ?_ ?_
      | refine LeO.bind ?_ (fun _ => ?_)
    · intro y0 y1 y2 y3 y4 y5 y6
      unfold seneschallaw17_PastNeeds.j1
      repeat' first
      | (with_reducible exact ih0 _ _ _ _ _ _ _)
      | (with_reducible exact ih1 _ _ _ _ _ _ _)
      | (with_reducible exact ih2 _ _ _ _ _ _ _ _)
      | (with_reducible exact ih3 _ _ _ _ _ _ _ _ _)
      | (with_reducible exact seneschallaw17_great.mono _ _)
      | (with_reducible exact LeO.refl _)
      | (with_reducible exact LeO.none _)
      | (with_reducible refine LeO.ite ?_ ?_)
      | (with_reducible refine LeO.bind ?_ (fun _ => ?_))
      | exact ih0 _ _ _ _ _ _ _
      | exact ih1 _ _ _ _ _ _ _
      | exact ih2 _ _ _ _ _ _ _ _
      | exact ih3 _ _ _ _ _ _ _ _ _
      | exact seneschallaw17_great.mono _ _
      | exact LeO.none _
      | refine LeO.ite ?_ ?_
      | refine LeO.bind ?_ (fun _ => ?_)
    · intro y0 y1 y2 y3 y4 y5 y6 y7
      unfold seneschallaw17_PastNeeds.l0
      repeat' first
      | (with_reducible exact ih0 _ _ _ _ _ _ _)
      | (with_reducible exact ih1 _ _ _ _ _ _ _)
      | (with_reducible exact ih2 _ _ _ _ _ _ _ _)
      | (with_reducible exact ih3 _ _ _ _ _ _ _ _ _)
      | (with_reducible exact seneschallaw17_great.mono _ _)
      | (with_reducible exact LeO.refl _)
      | (with_reducible exact LeO.none _)
      | (with_reducible refine LeO.ite ?_ ?_)
      | (with_reducible refine LeO.bind ?_ (fun _ => ?_))
      | exact ih0 _ _ _ _ _ _ _
      | exact ih1 _ _ _ _ _ _ _
      | exact ih2 _ _ _ _ _ _ _ _
      | exact ih3 _ _ _ _ _ _ _ _ _
      | exact seneschallaw17_great.mono _ _
      | exact LeO.none _
      | refine LeO.ite ?_ ?_
      | refine LeO.bind ?_ (fun _ => ?_)
    · intro y0 y1 y2 y3 y4 y5 y6 y7 y8
      unfold seneschallaw17_PastNeeds.j3
      repeat' first
      | (with_reducible exact ih0 _ _ _ _ _ _ _)
      | (with_reducible exact ih1 _ _ _ _ _ _ _)
      | (with_reducible exact ih2 _ _ _ _ _ _ _ _)
      | (with_reducible exact ih3 _ _ _ _ _ _ _ _ _)
      | (with_reducible exact seneschallaw17_great.mono _ _)
      | (with_reducible exact LeO.refl _)
      | (with_reducible exact LeO.none _)
      | (with_reducible refine LeO.ite ?_ ?_)
      | (with_reducible refine LeO.bind ?_ (fun _ => ?_))
      | exact ih0 _ _ _ _ _ _ _
      | exact ih1 _ _ _ _ _ _ _
      | exact ih2 _ _ _ _ _ _ _ _
      | exact ih3 _ _ _ _ _ _ _ _ _
      | exact seneschallaw17_great.mono _ _
      | exact LeO.none _
      | refine LeO.ite ?_ ?_
      | refine LeO.bind ?_ (fun _ => ?_)
theorem seneschallaw17_PastNeeds.mono : ∀ a0 a1 k, LeO (seneschallaw17_PastNeeds.f k a0 a1) (seneschallaw17_PastNeeds.f (k + 1) a0 a1) := by
  intro a0 a1 k
  obtain ⟨ih0, ih1, ih2, ih3⟩ := seneschallaw17_PastNeeds.mono_l k
  unfold seneschallaw17_PastNeeds.f
  repeat' first
      | (with_reducible exact ih0 _ _ _ _ _ _ _)
      | (with_reducible exact ih1 _ _ _ _ _ _ _)
      | (with_reducible exact ih2 _ _ _ _ _ _ _ _)
      | (with_reducible exact ih3 _ _ _ _ _ _ _ _ _)
      | (with_reducible exact seneschallaw17_great.mono _ _)
      | (with_reducible exact LeO.refl _)
      | (with_reducible exact LeO.none _)
      | (with_reducible refine LeO.ite ?_ ?_)
      | (with_reducible refine LeO.bind ?_ (fun _ => ?_))
      | exact ih0 _ _ _ _ _ _ _
      | exact ih1 _ _ _ _ _ _ _
      | exact ih2 _ _ _ _ _ _ _ _
      | exact ih3 _ _ _ _ _ _ _ _ _
      | exact seneschallaw17_great.mono _ _
      | exact LeO.none _
      | refine LeO.ite ?_ ?_
      | refine LeO.bind ?_ (fun _ => ?_)
set_option maxHeartbeats 8000000 in
set_option maxRecDepth 100000 in
theorem seneschallaw17_PastNeeds.calls (k : Nat) (A0 : Option Addr) (c0 : Nat) (l0 : List (S31)) (a1 : Int) (r : Bool) (w : World) (hr0 : Kd.C k31 w A0 l0.length l0) (hc0 : l0.length ≤ c0) (h : seneschallaw17_PastNeeds.f k l0 a1 = some r) :
    Calls Try.prog 5 #[.slice A0 l0.length c0, .int .i64 a1] w fun e w' => e = .returned (.bool r) ∧ Below w.heap.size w w' := by
  have hu37 := Try.underlying37
  have hu43 := Try.underlying43
  have HR0 := Aside0.mk hr0
  have HC0 := Aside0.mk hc0
  clear hr0 hc0
  have HB := Aside0.mk (Below.refl w.heap.size w)
  have H : ((seneschallaw17_awake.f).bind fun t306 => (if t306 = true then ((seneschallaw17_great.f k l0).bind fun t307 => (if t307 = true then (some true) else ((past_Needed.f l0 (wrap64 (1 + (wrap64 (Int.tmod (IntKind.u64.wrap (a1)) 1000))))).bind fun t308 => ((past_Read.f l0 (wrap64 (1 + (wrap64 (Int.tmod (IntKind.u64.wrap (a1)) 1000))))).bind fun bt309 => (if t308 = 0 then (some ((bt309.1.length : Int) == 0)) else (if t308 < (wrap64 (1 + (wrap64 (Int.tmod (IntKind.u64.wrap (a1)) 1000)))) then (seneschallaw17_PastNeeds.j0 k l0 (wrap64 (1 + (wrap64 (Int.tmod (IntKind.u64.wrap (a1)) 1000)))) t308 true bt309.1 bt309.2.1 bt309.2.2) else (seneschallaw17_PastNeeds.j0 k l0 (wrap64 (1 + (wrap64 (Int.tmod (IntKind.u64.wrap (a1)) 1000)))) t308 (decide ((wrap64 (t308 - (wrap64 (1 + (wrap64 (Int.tmod (IntKind.u64.wrap (a1)) 1000)))))) ≥ (l0.length : Int))) bt309.1 bt309.2.1 bt309.2.2))))))) else (some false))) = some r := h
  clear h
  replace H := Option.bind_eq_some_iff.mp H
  obtain ⟨t306, A30, H⟩ := H
  replace H : (if t306 = true then ((seneschallaw17_great.f k l0).bind fun t307 => (if t307 = true then (some true) else ((past_Needed.f l0 (wrap64 (1 + (wrap64 (Int.tmod (IntKind.u64.wrap (a1)) 1000))))).bind fun t308 => ((past_Read.f l0 (wrap64 (1 + (wrap64 (Int.tmod (IntKind.u64.wrap (a1)) 1000))))).bind fun bt309 => (if t308 = 0 then (some ((bt309.1.length : Int) == 0)) else (if t308 < (wrap64 (1 + (wrap64 (Int.tmod (IntKind.u64.wrap (a1)) 1000)))) then (seneschallaw17_PastNeeds.j0 k l0 (wrap64 (1 + (wrap64 (Int.tmod (IntKind.u64.wrap (a1)) 1000)))) t308 true bt309.1 bt309.2.1 bt309.2.2) else (seneschallaw17_PastNeeds.j0 k l0 (wrap64 (1 + (wrap64 (Int.tmod (IntKind.u64.wrap (a1)) 1000)))) t308 (decide ((wrap64 (t308 - (wrap64 (1 + (wrap64 (Int.tmod (IntKind.u64.wrap (a1)) 1000)))))) ≥ (l0.length : Int))) bt309.1 bt309.2.1 bt309.2.2))))))) else (some false)) = some r := H
  have A3 := Aside0.mk A30
  clear A30
  by_cases c4 : t306 = true
  · subst c4
    have H1 : ((seneschallaw17_great.f k l0).bind fun t307 => (if t307 = true then (some true) else ((past_Needed.f l0 (wrap64 (1 + (wrap64 (Int.tmod (IntKind.u64.wrap (a1)) 1000))))).bind fun t308 => ((past_Read.f l0 (wrap64 (1 + (wrap64 (Int.tmod (IntKind.u64.wrap (a1)) 1000))))).bind fun bt309 => (if t308 = 0 then (some ((bt309.1.length : Int) == 0)) else (if t308 < (wrap64 (1 + (wrap64 (Int.tmod (IntKind.u64.wrap (a1)) 1000)))) then (seneschallaw17_PastNeeds.j0 k l0 (wrap64 (1 + (wrap64 (Int.tmod (IntKind.u64.wrap (a1)) 1000)))) t308 true bt309.1 bt309.2.1 bt309.2.2) else (seneschallaw17_PastNeeds.j0 k l0 (wrap64 (1 + (wrap64 (Int.tmod (IntKind.u64.wrap (a1)) 1000)))) t308 (decide ((wrap64 (t308 - (wrap64 (1 + (wrap64 (Int.tmod (IntKind.u64.wrap (a1)) 1000)))))) ≥ (l0.length : Int))) bt309.1 bt309.2.1 bt309.2.2))))))) = some r := by rw [if_pos rfl] at H; exact H
    clear H
    have H := H1
    clear H1
    replace H := Option.bind_eq_some_iff.mp H
    obtain ⟨t307, A50, H⟩ := H
    replace H : (if t307 = true then (some true) else ((past_Needed.f l0 (wrap64 (1 + (wrap64 (Int.tmod (IntKind.u64.wrap (a1)) 1000))))).bind fun t308 => ((past_Read.f l0 (wrap64 (1 + (wrap64 (Int.tmod (IntKind.u64.wrap (a1)) 1000))))).bind fun bt309 => (if t308 = 0 then (some ((bt309.1.length : Int) == 0)) else (if t308 < (wrap64 (1 + (wrap64 (Int.tmod (IntKind.u64.wrap (a1)) 1000)))) then (seneschallaw17_PastNeeds.j0 k l0 (wrap64 (1 + (wrap64 (Int.tmod (IntKind.u64.wrap (a1)) 1000)))) t308 true bt309.1 bt309.2.1 bt309.2.2) else (seneschallaw17_PastNeeds.j0 k l0 (wrap64 (1 + (wrap64 (Int.tmod (IntKind.u64.wrap (a1)) 1000)))) t308 (decide ((wrap64 (t308 - (wrap64 (1 + (wrap64 (Int.tmod (IntKind.u64.wrap (a1)) 1000)))))) ≥ (l0.length : Int))) bt309.1 bt309.2.1 bt309.2.2)))))) = some r := H
    have A5 := Aside0.mk A50
    clear A50
    by_cases c6 : t307 = true
    · subst c6
      have H1 : (some true) = some r := by rw [if_pos rfl] at H; exact H
      clear H
      have H := H1
      clear H1
      obtain rfl := Option.some.inj H
      go_enter Try.func5, Try.ntmps5
      go_wp2_with (first | (go_at_call 8; (with_reducible refine (seneschallaw17_awake.calls  true _ A3.out).mono ?_); rintro e w7 ⟨rfl, hb⟩; have n0_ := Aside0.mk (below_step (by repeat (first | (with_reducible first | exact HB.out | apply below_alloc | apply pw_below_drewN | apply below_drew1) | exact HB.out)) hb); clear HB; have HB := n0_; clear n0_; (try clear hb); (try clear hb2); (try clear hk); (try clear hi)) | (go_at_call 9; (with_reducible refine (seneschallaw17_great.calls k _ _ l0 true _ ?side1 ?side2 A5.out).mono ?_); (case side1 => repeat (first | exact (Kd.C_below HR0.out HB.out) | (with_reducible refine Kd.C_alloc ?_ _) | (with_reducible refine Kd.C_drewN ?_ _) | (with_reducible refine Kd.C_drew ?_))); (case side2 => exact HC0.out); rintro e w' ⟨rfl, ⟨nd, rfl⟩⟩; (try first | exact ⟨rfl, _, World.drewN_drewN _ _ _⟩ | exact ⟨rfl, _, Eq.trans (World.drewN_drewN _ _ _) (congrArg (World.drewN _) (Nat.add_assoc _ _ _))⟩)))
      repeat (go_quiet (first | (go_at_call 8; (with_reducible refine (seneschallaw17_awake.calls  true _ A3.out).mono ?_); rintro e w7 ⟨rfl, hb⟩; have n0_ := Aside0.mk (below_step (by repeat (first | (with_reducible first | exact HB.out | apply below_alloc | apply pw_below_drewN | apply below_drew1) | exact HB.out)) hb); clear HB; have HB := n0_; clear n0_; (try clear hb); (try clear hb2); (try clear hk); (try clear hi)) | (go_at_call 9; (with_reducible refine (seneschallaw17_great.calls k _ _ l0 true _ ?side1 ?side2 A5.out).mono ?_); (case side1 => repeat (first | exact (Kd.C_below HR0.out HB.out) | (with_reducible refine Kd.C_alloc ?_ _) | (with_reducible refine Kd.C_drewN ?_ _) | (with_reducible refine Kd.C_drew ?_))); (case side2 => exact HC0.out); rintro e w' ⟨rfl, ⟨nd, rfl⟩⟩; (try first | exact ⟨rfl, _, World.drewN_drewN _ _ _⟩ | exact ⟨rfl, _, Eq.trans (World.drewN_drewN _ _ _) (congrArg (World.drewN _) (Nat.add_assoc _ _ _))⟩))); try go_wp2_with (first | (go_at_call 8; (with_reducible refine (seneschallaw17_awake.calls  true _ A3.out).mono ?_); rintro e w7 ⟨rfl, hb⟩; have n0_ := Aside0.mk (below_step (by repeat (first | (with_reducible first | exact HB.out | apply below_alloc | apply pw_below_drewN | apply below_drew1) | exact HB.out)) hb); clear HB; have HB := n0_; clear n0_; (try clear hb); (try clear hb2); (try clear hk); (try clear hi)) | (go_at_call 9; (with_reducible refine (seneschallaw17_great.calls k _ _ l0 true _ ?side1 ?side2 A5.out).mono ?_); (case side1 => repeat (first | exact (Kd.C_below HR0.out HB.out) | (with_reducible refine Kd.C_alloc ?_ _) | (with_reducible refine Kd.C_drewN ?_ _) | (with_reducible refine Kd.C_drew ?_))); (case side2 => exact HC0.out); rintro e w' ⟨rfl, ⟨nd, rfl⟩⟩; (try first | exact ⟨rfl, _, World.drewN_drewN _ _ _⟩ | exact ⟨rfl, _, Eq.trans (World.drewN_drewN _ _ _) (congrArg (World.drewN _) (Nat.add_assoc _ _ _))⟩))))
      go_ret
      exact ⟨by first | rfl | (simp [errW_none, errW_some] <;> rfl) | (simp [*, errW_none, errW_some] <;> rfl), by repeat (first | (with_reducible first | exact HB.out | apply below_alloc | apply pw_below_drewN | apply below_drew1) | exact HB.out)⟩
    · replace c6 := Bool.eq_false_iff.mpr c6
      subst c6
      have H1 : ((past_Needed.f l0 (wrap64 (1 + (wrap64 (Int.tmod (IntKind.u64.wrap (a1)) 1000))))).bind fun t308 => ((past_Read.f l0 (wrap64 (1 + (wrap64 (Int.tmod (IntKind.u64.wrap (a1)) 1000))))).bind fun bt309 => (if t308 = 0 then (some ((bt309.1.length : Int) == 0)) else (if t308 < (wrap64 (1 + (wrap64 (Int.tmod (IntKind.u64.wrap (a1)) 1000)))) then (seneschallaw17_PastNeeds.j0 k l0 (wrap64 (1 + (wrap64 (Int.tmod (IntKind.u64.wrap (a1)) 1000)))) t308 true bt309.1 bt309.2.1 bt309.2.2) else (seneschallaw17_PastNeeds.j0 k l0 (wrap64 (1 + (wrap64 (Int.tmod (IntKind.u64.wrap (a1)) 1000)))) t308 (decide ((wrap64 (t308 - (wrap64 (1 + (wrap64 (Int.tmod (IntKind.u64.wrap (a1)) 1000)))))) ≥ (l0.length : Int))) bt309.1 bt309.2.1 bt309.2.2))))) = some r := by rw [if_neg (show ¬ (false = true) by decide)] at H; exact H
      clear H
      have H := H1
      clear H1
      replace H := Option.bind_eq_some_iff.mp H
      obtain ⟨t308, A80, H⟩ := H
      replace H : ((past_Read.f l0 (wrap64 (1 + (wrap64 (Int.tmod (IntKind.u64.wrap (a1)) 1000))))).bind fun bt309 => (if t308 = 0 then (some ((bt309.1.length : Int) == 0)) else (if t308 < (wrap64 (1 + (wrap64 (Int.tmod (IntKind.u64.wrap (a1)) 1000)))) then (seneschallaw17_PastNeeds.j0 k l0 (wrap64 (1 + (wrap64 (Int.tmod (IntKind.u64.wrap (a1)) 1000)))) t308 true bt309.1 bt309.2.1 bt309.2.2) else (seneschallaw17_PastNeeds.j0 k l0 (wrap64 (1 + (wrap64 (Int.tmod (IntKind.u64.wrap (a1)) 1000)))) t308 (decide ((wrap64 (t308 - (wrap64 (1 + (wrap64 (Int.tmod (IntKind.u64.wrap (a1)) 1000)))))) ≥ (l0.length : Int))) bt309.1 bt309.2.1 bt309.2.2)))) = some r := H
      have A8 := Aside0.mk A80
      clear A80
      replace H := Option.bind_eq_some_iff.mp H
      obtain ⟨⟨t309, t312, t315⟩, A90, H⟩ := H
      replace H : (if t308 = 0 then (some ((t309.length : Int) == 0)) else (if t308 < (wrap64 (1 + (wrap64 (Int.tmod (IntKind.u64.wrap (a1)) 1000)))) then (seneschallaw17_PastNeeds.j0 k l0 (wrap64 (1 + (wrap64 (Int.tmod (IntKind.u64.wrap (a1)) 1000)))) t308 true t309 t312 t315) else (seneschallaw17_PastNeeds.j0 k l0 (wrap64 (1 + (wrap64 (Int.tmod (IntKind.u64.wrap (a1)) 1000)))) t308 (decide ((wrap64 (t308 - (wrap64 (1 + (wrap64 (Int.tmod (IntKind.u64.wrap (a1)) 1000)))))) ≥ (l0.length : Int))) t309 t312 t315))) = some r := H
      have A9 := Aside0.mk A90
      clear A90
      by_cases c10 : t308 = 0
      · rw [if_pos c10] at H
        have c10b0 : (t308 == 0) = true := beq_iff_eq.mpr c10
        have c10b1 : (t308 != 0) = false := bne_eq_false_iff_eq.mpr c10
        clear c10
        obtain rfl := Option.some.inj H
        go_enter Try.func5, Try.ntmps5
        go_wp2_with (first | (go_at_call 8; (with_reducible refine (seneschallaw17_awake.calls  true _ A3.out).mono ?_); rintro e w11 ⟨rfl, hb⟩; have n0_ := Aside0.mk (below_step (by repeat (first | (with_reducible first | exact HB.out | apply below_alloc | apply pw_below_drewN | apply below_drew1) | exact HB.out)) hb); clear HB; have HB := n0_; clear n0_; (try clear hb); (try clear hb2); (try clear hk); (try clear hi)) | (go_at_call 9; (with_reducible refine (seneschallaw17_great.calls k _ _ l0 false _ ?side1 ?side2 A5.out).mono ?_); (case side1 => repeat (first | exact (Kd.C_below HR0.out HB.out) | (with_reducible refine Kd.C_alloc ?_ _) | (with_reducible refine Kd.C_drewN ?_ _) | (with_reducible refine Kd.C_drew ?_))); (case side2 => exact HC0.out); rintro e w' ⟨rfl, ⟨nd, rfl⟩⟩; (try first | exact ⟨rfl, _, World.drewN_drewN _ _ _⟩ | exact ⟨rfl, _, Eq.trans (World.drewN_drewN _ _ _) (congrArg (World.drewN _) (Nat.add_assoc _ _ _))⟩)) | (go_at_call 15; (with_reducible refine (past_Needed.calls _ _ l0 (wrap64 (1 + (wrap64 (Int.tmod (IntKind.u64.wrap (a1)) 1000)))) t308 _ ?side1 ?side2 A8.out).mono ?_); (case side1 => repeat (first | exact (Kd.C_below HR0.out (by repeat (first | (with_reducible first | exact HB.out | apply below_alloc | apply pw_below_drewN | apply below_drew1) | exact HB.out))) | (with_reducible refine Kd.C_alloc ?_ _) | (with_reducible refine Kd.C_drewN ?_ _) | (with_reducible refine Kd.C_drew ?_))); (case side2 => exact HC0.out); rintro e w12 ⟨rfl, hb⟩; have n0_ := Aside0.mk (below_step (by repeat (first | (with_reducible first | exact HB.out | apply below_alloc | apply pw_below_drewN | apply below_drew1) | exact HB.out)) hb); clear HB; have HB := n0_; clear n0_; (try clear hb); (try clear hb2); (try clear hk); (try clear hi)) | (go_at_call 13; (with_reducible refine (past_Read.calls _ _ l0 (wrap64 (1 + (wrap64 (Int.tmod (IntKind.u64.wrap (a1)) 1000)))) t309 t312 t315 _ ?side1 ?side2 A9.out).mono ?_); (case side1 => repeat (first | exact (Kd.C_below HR0.out HB.out) | (with_reducible refine Kd.C_alloc ?_ _) | (with_reducible refine Kd.C_drewN ?_ _) | (with_reducible refine Kd.C_drew ?_))); (case side2 => exact HC0.out); rintro e w13 ⟨v310, v313, v316, rfl, ho0, ho1, ho2, hb⟩; have n0_ := Aside0.mk (Kd.R_lower ho0 (below_size (by repeat (first | (with_reducible first | exact HB.out | apply below_alloc | apply pw_below_drewN | apply below_drew1) | exact HB.out)))); have n1_ := Aside0.mk (Kd.R_lower ho1 (below_size (by repeat (first | (with_reducible first | exact HB.out | apply below_alloc | apply pw_below_drewN | apply below_drew1) | exact HB.out)))); have n2_ := Aside0.mk (Kd.R_lower ho2 (below_size (by repeat (first | (with_reducible first | exact HB.out | apply below_alloc | apply pw_below_drewN | apply below_drew1) | exact HB.out)))); have n3_ := Aside0.mk (below_step (by repeat (first | (with_reducible first | exact HB.out | apply below_alloc | apply pw_below_drewN | apply below_drew1) | exact HB.out)) hb); clear HB; have HO311 := n0_; have HO314 := n1_; have HO317 := n2_; have HB := n3_; clear n0_ n1_ n2_ n3_; (try clear hb); (try clear hb2); (try clear hk); (try clear hi); (try clear ho0); (try clear ho1); (try clear ho2)) | ((with_reducible refine gate_dst (N := 6) rfl ?_); (try (refine gate_guard (by rfl) ?_; dsimp only)); refine box_event ?hg (N := 6) ?hd (cs := #[.slice none 0 0, .slice none 0 0, .slice none 0 0]) (t := 37) ?hr ?_; (case hd => rfl); (case hg => rfl); (case hr => first | (go_simp; done) | (go_simp; rfl)); intro gb318 hg w14 hbox hb; have n0_ := Aside0.mk (Kd.R_below (by (with_reducible repeat (first | apply Kd.R_alloc | apply Kd.R_drewN | apply Kd.R_drew)); exact HO311.out) hb); have n1_ := Aside0.mk (Kd.R_below (by (with_reducible repeat (first | apply Kd.R_alloc | apply Kd.R_drewN | apply Kd.R_drew)); exact HO314.out) hb); have n2_ := Aside0.mk (Kd.R_below (by (with_reducible repeat (first | apply Kd.R_alloc | apply Kd.R_drewN | apply Kd.R_drew)); exact HO317.out) hb); have n3_ := Aside0.mk (below_step (by repeat (first | (with_reducible first | exact HB.out | apply below_alloc | apply pw_below_drewN | apply below_drew1) | exact HB.out)) hb); have n4_ := Aside0.mk (hbox); have n5_ := Aside0.mk ((by rw [hg]; exact (below_size (by repeat (first | (with_reducible first | exact HB.out | apply below_alloc | apply pw_below_drewN | apply below_drew1) | exact HB.out))) : w.heap.size ≤ gb318)); have n6_ := Aside0.mk ((by rw [hg]; exact (below_size (by repeat (first | (with_reducible first | exact HB.out | apply below_alloc | apply pw_below_drewN | apply below_drew1) | exact HB.out))) : w.heap.size ≤ gb318)); clear HO311; clear HO314; clear HO317; clear HB; have HO311 := n0_; have HO314 := n1_; have HO317 := n2_; have HB := n3_; have BK318 := n4_; have GW318 := n5_; have GE318 := n6_; clear n0_ n1_ n2_ n3_ n4_ n5_ n6_; clear hb hbox hg; obtain ⟨Ao15, co15, eo15⟩ := Kd.R_slice HO311.out; subst eo15; have hcz16_0 : w14.cell? ⟨gb318, 0, none⟩ = some (.slice none 0 0) := (blk_cell BK318.out 0).trans rfl; have hcz16_1 : w14.cell? ⟨gb318, 1, none⟩ = some (.slice none 0 0) := (blk_cell BK318.out 1).trans rfl; have hcz16_2 : w14.cell? ⟨gb318, 2, none⟩ = some (.slice none 0 0) := (blk_cell BK318.out 2).trans rfl; have hfz16_0 := blk_frozen BK318.out 0; have hfz16_1 := blk_frozen BK318.out 1; have hfz16_2 := blk_frozen BK318.out 2; obtain ⟨Ao17, co17, eo17⟩ := Kd.R_slice HO314.out; subst eo17; obtain ⟨Ao18, co18, eo18⟩ := Kd.R_slice HO317.out; subst eo18))
        repeat (go_quiet (first | (go_at_call 8; (with_reducible refine (seneschallaw17_awake.calls  true _ A3.out).mono ?_); rintro e w11 ⟨rfl, hb⟩; have n0_ := Aside0.mk (below_step (by repeat (first | (with_reducible first | exact HB.out | apply below_alloc | apply pw_below_drewN | apply below_drew1) | exact HB.out)) hb); clear HB; have HB := n0_; clear n0_; (try clear hb); (try clear hb2); (try clear hk); (try clear hi)) | (go_at_call 9; (with_reducible refine (seneschallaw17_great.calls k _ _ l0 false _ ?side1 ?side2 A5.out).mono ?_); (case side1 => repeat (first | exact (Kd.C_below HR0.out HB.out) | (with_reducible refine Kd.C_alloc ?_ _) | (with_reducible refine Kd.C_drewN ?_ _) | (with_reducible refine Kd.C_drew ?_))); (case side2 => exact HC0.out); rintro e w' ⟨rfl, ⟨nd, rfl⟩⟩; (try first | exact ⟨rfl, _, World.drewN_drewN _ _ _⟩ | exact ⟨rfl, _, Eq.trans (World.drewN_drewN _ _ _) (congrArg (World.drewN _) (Nat.add_assoc _ _ _))⟩)) | (go_at_call 15; (with_reducible refine (past_Needed.calls _ _ l0 (wrap64 (1 + (wrap64 (Int.tmod (IntKind.u64.wrap (a1)) 1000)))) t308 _ ?side1 ?side2 A8.out).mono ?_); (case side1 => repeat (first | exact (Kd.C_below HR0.out (by repeat (first | (with_reducible first | exact HB.out | apply below_alloc | apply pw_below_drewN | apply below_drew1) | exact HB.out))) | (with_reducible refine Kd.C_alloc ?_ _) | (with_reducible refine Kd.C_drewN ?_ _) | (with_reducible refine Kd.C_drew ?_))); (case side2 => exact HC0.out); rintro e w12 ⟨rfl, hb⟩; have n0_ := Aside0.mk (below_step (by repeat (first | (with_reducible first | exact HB.out | apply below_alloc | apply pw_below_drewN | apply below_drew1) | exact HB.out)) hb); clear HB; have HB := n0_; clear n0_; (try clear hb); (try clear hb2); (try clear hk); (try clear hi)) | (go_at_call 13; (with_reducible refine (past_Read.calls _ _ l0 (wrap64 (1 + (wrap64 (Int.tmod (IntKind.u64.wrap (a1)) 1000)))) t309 t312 t315 _ ?side1 ?side2 A9.out).mono ?_); (case side1 => repeat (first | exact (Kd.C_below HR0.out HB.out) | (with_reducible refine Kd.C_alloc ?_ _) | (with_reducible refine Kd.C_drewN ?_ _) | (with_reducible refine Kd.C_drew ?_))); (case side2 => exact HC0.out); rintro e w13 ⟨v310, v313, v316, rfl, ho0, ho1, ho2, hb⟩; have n0_ := Aside0.mk (Kd.R_lower ho0 (below_size (by repeat (first | (with_reducible first | exact HB.out | apply below_alloc | apply pw_below_drewN | apply below_drew1) | exact HB.out)))); have n1_ := Aside0.mk (Kd.R_lower ho1 (below_size (by repeat (first | (with_reducible first | exact HB.out | apply below_alloc | apply pw_below_drewN | apply below_drew1) | exact HB.out)))); have n2_ := Aside0.mk (Kd.R_lower ho2 (below_size (by repeat (first | (with_reducible first | exact HB.out | apply below_alloc | apply pw_below_drewN | apply below_drew1) | exact HB.out)))); have n3_ := Aside0.mk (below_step (by repeat (first | (with_reducible first | exact HB.out | apply below_alloc | apply pw_below_drewN | apply below_drew1) | exact HB.out)) hb); clear HB; have HO311 := n0_; have HO314 := n1_; have HO317 := n2_; have HB := n3_; clear n0_ n1_ n2_ n3_; (try clear hb); (try clear hb2); (try clear hk); (try clear hi); (try clear ho0); (try clear ho1); (try clear ho2)) | ((with_reducible refine gate_dst (N := 6) rfl ?_); (try (refine gate_guard (by rfl) ?_; dsimp only)); refine box_event ?hg (N := 6) ?hd (cs := #[.slice none 0 0, .slice none 0 0, .slice none 0 0]) (t := 37) ?hr ?_; (case hd => rfl); (case hg => rfl); (case hr => first | (go_simp; done) | (go_simp; rfl)); intro gb318 hg w14 hbox hb; have n0_ := Aside0.mk (Kd.R_below (by (with_reducible repeat (first | apply Kd.R_alloc | apply Kd.R_drewN | apply Kd.R_drew)); exact HO311.out) hb); have n1_ := Aside0.mk (Kd.R_below (by (with_reducible repeat (first | apply Kd.R_alloc | apply Kd.R_drewN | apply Kd.R_drew)); exact HO314.out) hb); have n2_ := Aside0.mk (Kd.R_below (by (with_reducible repeat (first | apply Kd.R_alloc | apply Kd.R_drewN | apply Kd.R_drew)); exact HO317.out) hb); have n3_ := Aside0.mk (below_step (by repeat (first | (with_reducible first | exact HB.out | apply below_alloc | apply pw_below_drewN | apply below_drew1) | exact HB.out)) hb); have n4_ := Aside0.mk (hbox); have n5_ := Aside0.mk ((by rw [hg]; exact (below_size (by repeat (first | (with_reducible first | exact HB.out | apply below_alloc | apply pw_below_drewN | apply below_drew1) | exact HB.out))) : w.heap.size ≤ gb318)); have n6_ := Aside0.mk ((by rw [hg]; exact (below_size (by repeat (first | (with_reducible first | exact HB.out | apply below_alloc | apply pw_below_drewN | apply below_drew1) | exact HB.out))) : w.heap.size ≤ gb318)); clear HO311; clear HO314; clear HO317; clear HB; have HO311 := n0_; have HO314 := n1_; have HO317 := n2_; have HB := n3_; have BK318 := n4_; have GW318 := n5_; have GE318 := n6_; clear n0_ n1_ n2_ n3_ n4_ n5_ n6_; clear hb hbox hg; obtain ⟨Ao15, co15, eo15⟩ := Kd.R_slice HO311.out; subst eo15; have hcz16_0 : w14.cell? ⟨gb318, 0, none⟩ = some (.slice none 0 0) := (blk_cell BK318.out 0).trans rfl; have hcz16_1 : w14.cell? ⟨gb318, 1, none⟩ = some (.slice none 0 0) := (blk_cell BK318.out 1).trans rfl; have hcz16_2 : w14.cell? ⟨gb318, 2, none⟩ = some (.slice none 0 0) := (blk_cell BK318.out 2).trans rfl; have hfz16_0 := blk_frozen BK318.out 0; have hfz16_1 := blk_frozen BK318.out 1; have hfz16_2 := blk_frozen BK318.out 2; obtain ⟨Ao17, co17, eo17⟩ := Kd.R_slice HO314.out; subst eo17; obtain ⟨Ao18, co18, eo18⟩ := Kd.R_slice HO317.out; subst eo18)); try go_wp2_with (first | (go_at_call 8; (with_reducible refine (seneschallaw17_awake.calls  true _ A3.out).mono ?_); rintro e w11 ⟨rfl, hb⟩; have n0_ := Aside0.mk (below_step (by repeat (first | (with_reducible first | exact HB.out | apply below_alloc | apply pw_below_drewN | apply below_drew1) | exact HB.out)) hb); clear HB; have HB := n0_; clear n0_; (try clear hb); (try clear hb2); (try clear hk); (try clear hi)) | (go_at_call 9; (with_reducible refine (seneschallaw17_great.calls k _ _ l0 false _ ?side1 ?side2 A5.out).mono ?_); (case side1 => repeat (first | exact (Kd.C_below HR0.out HB.out) | (with_reducible refine Kd.C_alloc ?_ _) | (with_reducible refine Kd.C_drewN ?_ _) | (with_reducible refine Kd.C_drew ?_))); (case side2 => exact HC0.out); rintro e w' ⟨rfl, ⟨nd, rfl⟩⟩; (try first | exact ⟨rfl, _, World.drewN_drewN _ _ _⟩ | exact ⟨rfl, _, Eq.trans (World.drewN_drewN _ _ _) (congrArg (World.drewN _) (Nat.add_assoc _ _ _))⟩)) | (go_at_call 15; (with_reducible refine (past_Needed.calls _ _ l0 (wrap64 (1 + (wrap64 (Int.tmod (IntKind.u64.wrap (a1)) 1000)))) t308 _ ?side1 ?side2 A8.out).mono ?_); (case side1 => repeat (first | exact (Kd.C_below HR0.out (by repeat (first | (with_reducible first | exact HB.out | apply below_alloc | apply pw_below_drewN | apply below_drew1) | exact HB.out))) | (with_reducible refine Kd.C_alloc ?_ _) | (with_reducible refine Kd.C_drewN ?_ _) | (with_reducible refine Kd.C_drew ?_))); (case side2 => exact HC0.out); rintro e w12 ⟨rfl, hb⟩; have n0_ := Aside0.mk (below_step (by repeat (first | (with_reducible first | exact HB.out | apply below_alloc | apply pw_below_drewN | apply below_drew1) | exact HB.out)) hb); clear HB; have HB := n0_; clear n0_; (try clear hb); (try clear hb2); (try clear hk); (try clear hi)) | (go_at_call 13; (with_reducible refine (past_Read.calls _ _ l0 (wrap64 (1 + (wrap64 (Int.tmod (IntKind.u64.wrap (a1)) 1000)))) t309 t312 t315 _ ?side1 ?side2 A9.out).mono ?_); (case side1 => repeat (first | exact (Kd.C_below HR0.out HB.out) | (with_reducible refine Kd.C_alloc ?_ _) | (with_reducible refine Kd.C_drewN ?_ _) | (with_reducible refine Kd.C_drew ?_))); (case side2 => exact HC0.out); rintro e w13 ⟨v310, v313, v316, rfl, ho0, ho1, ho2, hb⟩; have n0_ := Aside0.mk (Kd.R_lower ho0 (below_size (by repeat (first | (with_reducible first | exact HB.out | apply below_alloc | apply pw_below_drewN | apply below_drew1) | exact HB.out)))); have n1_ := Aside0.mk (Kd.R_lower ho1 (below_size (by repeat (first | (with_reducible first | exact HB.out | apply below_alloc | apply pw_below_drewN | apply below_drew1) | exact HB.out)))); have n2_ := Aside0.mk (Kd.R_lower ho2 (below_size (by repeat (first | (with_reducible first | exact HB.out | apply below_alloc | apply pw_below_drewN | apply below_drew1) | exact HB.out)))); have n3_ := Aside0.mk (below_step (by repeat (first | (with_reducible first | exact HB.out | apply below_alloc | apply pw_below_drewN | apply below_drew1) | exact HB.out)) hb); clear HB; have HO311 := n0_; have HO314 := n1_; have HO317 := n2_; have HB := n3_; clear n0_ n1_ n2_ n3_; (try clear hb); (try clear hb2); (try clear hk); (try clear hi); (try clear ho0); (try clear ho1); (try clear ho2)) | ((with_reducible refine gate_dst (N := 6) rfl ?_); (try (refine gate_guard (by rfl) ?_; dsimp only)); refine box_event ?hg (N := 6) ?hd (cs := #[.slice none 0 0, .slice none 0 0, .slice none 0 0]) (t := 37) ?hr ?_; (case hd => rfl); (case hg => rfl); (case hr => first | (go_simp; done) | (go_simp; rfl)); intro gb318 hg w14 hbox hb; have n0_ := Aside0.mk (Kd.R_below (by (with_reducible repeat (first | apply Kd.R_alloc | apply Kd.R_drewN | apply Kd.R_drew)); exact HO311.out) hb); have n1_ := Aside0.mk (Kd.R_below (by (with_reducible repeat (first | apply Kd.R_alloc | apply Kd.R_drewN | apply Kd.R_drew)); exact HO314.out) hb); have n2_ := Aside0.mk (Kd.R_below (by (with_reducible repeat (first | apply Kd.R_alloc | apply Kd.R_drewN | apply Kd.R_drew)); exact HO317.out) hb); have n3_ := Aside0.mk (below_step (by repeat (first | (with_reducible first | exact HB.out | apply below_alloc | apply pw_below_drewN | apply below_drew1) | exact HB.out)) hb); have n4_ := Aside0.mk (hbox); have n5_ := Aside0.mk ((by rw [hg]; exact (below_size (by repeat (first | (with_reducible first | exact HB.out | apply below_alloc | apply pw_below_drewN | apply below_drew1) | exact HB.out))) : w.heap.size ≤ gb318)); have n6_ := Aside0.mk ((by rw [hg]; exact (below_size (by repeat (first | (with_reducible first | exact HB.out | apply below_alloc | apply pw_below_drewN | apply below_drew1) | exact HB.out))) : w.heap.size ≤ gb318)); clear HO311; clear HO314; clear HO317; clear HB; have HO311 := n0_; have HO314 := n1_; have HO317 := n2_; have HB := n3_; have BK318 := n4_; have GW318 := n5_; have GE318 := n6_; clear n0_ n1_ n2_ n3_ n4_ n5_ n6_; clear hb hbox hg; obtain ⟨Ao15, co15, eo15⟩ := Kd.R_slice HO311.out; subst eo15; have hcz16_0 : w14.cell? ⟨gb318, 0, none⟩ = some (.slice none 0 0) := (blk_cell BK318.out 0).trans rfl; have hcz16_1 : w14.cell? ⟨gb318, 1, none⟩ = some (.slice none 0 0) := (blk_cell BK318.out 1).trans rfl; have hcz16_2 : w14.cell? ⟨gb318, 2, none⟩ = some (.slice none 0 0) := (blk_cell BK318.out 2).trans rfl; have hfz16_0 := blk_frozen BK318.out 0; have hfz16_1 := blk_frozen BK318.out 1; have hfz16_2 := blk_frozen BK318.out 2; obtain ⟨Ao17, co17, eo17⟩ := Kd.R_slice HO314.out; subst eo17; obtain ⟨Ao18, co18, eo18⟩ := Kd.R_slice HO317.out; subst eo18)))
        go_ret
        exact ⟨by first | rfl | (simp [errW_none, errW_some] <;> rfl) | (simp [*, errW_none, errW_some] <;> rfl), by repeat (first | (with_reducible first | exact HB.out | apply below_alloc | apply pw_below_drewN | apply below_drew1 | refine below_set ?_ GE318.out) | exact HB.out)⟩
      · rw [if_neg c10] at H
        have c10b0 : (t308 == 0) = false := beq_eq_false_iff_ne.mpr c10
        have c10b1 : (t308 != 0) = true := bne_iff_ne.mpr c10
        have HC19 := Aside0.mk H
        clear H
        go_enter Try.func5, Try.ntmps5
        go_upto_region 10 with (first | (go_at_call 8; (with_reducible refine (seneschallaw17_awake.calls  true _ A3.out).mono ?_); rintro e w20 ⟨rfl, hb⟩; have n0_ := Aside0.mk (below_step (by repeat (first | (with_reducible first | exact HB.out | apply below_alloc | apply pw_below_drewN | apply below_drew1) | exact HB.out)) hb); clear HB; have HB := n0_; clear n0_; (try clear hb); (try clear hb2); (try clear hk); (try clear hi)) | (go_at_call 9; (with_reducible refine (seneschallaw17_great.calls k _ _ l0 false _ ?side1 ?side2 A5.out).mono ?_); (case side1 => repeat (first | exact (Kd.C_below HR0.out HB.out) | (with_reducible refine Kd.C_alloc ?_ _) | (with_reducible refine Kd.C_drewN ?_ _) | (with_reducible refine Kd.C_drew ?_))); (case side2 => exact HC0.out); rintro e w' ⟨rfl, ⟨nd, rfl⟩⟩; (try first | exact ⟨rfl, _, World.drewN_drewN _ _ _⟩ | exact ⟨rfl, _, Eq.trans (World.drewN_drewN _ _ _) (congrArg (World.drewN _) (Nat.add_assoc _ _ _))⟩)) | (go_at_call 15; (with_reducible refine (past_Needed.calls _ _ l0 (wrap64 (1 + (wrap64 (Int.tmod (IntKind.u64.wrap (a1)) 1000)))) t308 _ ?side1 ?side2 A8.out).mono ?_); (case side1 => repeat (first | exact (Kd.C_below HR0.out (by repeat (first | (with_reducible first | exact HB.out | apply below_alloc | apply pw_below_drewN | apply below_drew1) | exact HB.out))) | (with_reducible refine Kd.C_alloc ?_ _) | (with_reducible refine Kd.C_drewN ?_ _) | (with_reducible refine Kd.C_drew ?_))); (case side2 => exact HC0.out); rintro e w21 ⟨rfl, hb⟩; have n0_ := Aside0.mk (below_step (by repeat (first | (with_reducible first | exact HB.out | apply below_alloc | apply pw_below_drewN | apply below_drew1) | exact HB.out)) hb); clear HB; have HB := n0_; clear n0_; (try clear hb); (try clear hb2); (try clear hk); (try clear hi)) | (go_at_call 13; (with_reducible refine (past_Read.calls _ _ l0 (wrap64 (1 + (wrap64 (Int.tmod (IntKind.u64.wrap (a1)) 1000)))) t309 t312 t315 _ ?side1 ?side2 A9.out).mono ?_); (case side1 => repeat (first | exact (Kd.C_below HR0.out HB.out) | (with_reducible refine Kd.C_alloc ?_ _) | (with_reducible refine Kd.C_drewN ?_ _) | (with_reducible refine Kd.C_drew ?_))); (case side2 => exact HC0.out); rintro e w22 ⟨v310, v313, v316, rfl, ho0, ho1, ho2, hb⟩; have n0_ := Aside0.mk (Kd.R_lower ho0 (below_size (by repeat (first | (with_reducible first | exact HB.out | apply below_alloc | apply pw_below_drewN | apply below_drew1) | exact HB.out)))); have n1_ := Aside0.mk (Kd.R_lower ho1 (below_size (by repeat (first | (with_reducible first | exact HB.out | apply below_alloc | apply pw_below_drewN | apply below_drew1) | exact HB.out)))); have n2_ := Aside0.mk (Kd.R_lower ho2 (below_size (by repeat (first | (with_reducible first | exact HB.out | apply below_alloc | apply pw_below_drewN | apply below_drew1) | exact HB.out)))); have n3_ := Aside0.mk (below_step (by repeat (first | (with_reducible first | exact HB.out | apply below_alloc | apply pw_below_drewN | apply below_drew1) | exact HB.out)) hb); clear HB; have HO311 := n0_; have HO314 := n1_; have HO317 := n2_; have HB := n3_; clear n0_ n1_ n2_ n3_; (try clear hb); (try clear hb2); (try clear hk); (try clear hi); (try clear ho0); (try clear ho1); (try clear ho2)) | ((with_reducible refine gate_dst (N := 6) rfl ?_); (try (refine gate_guard (by rfl) ?_; dsimp only)); refine box_event ?hg (N := 6) ?hd (cs := #[.slice none 0 0, .slice none 0 0, .slice none 0 0]) (t := 37) ?hr ?_; (case hd => rfl); (case hg => rfl); (case hr => first | (go_simp; done) | (go_simp; rfl)); intro gb318 hg w23 hbox hb; have n0_ := Aside0.mk (Kd.R_below (by (with_reducible repeat (first | apply Kd.R_alloc | apply Kd.R_drewN | apply Kd.R_drew)); exact HO311.out) hb); have n1_ := Aside0.mk (Kd.R_below (by (with_reducible repeat (first | apply Kd.R_alloc | apply Kd.R_drewN | apply Kd.R_drew)); exact HO314.out) hb); have n2_ := Aside0.mk (Kd.R_below (by (with_reducible repeat (first | apply Kd.R_alloc | apply Kd.R_drewN | apply Kd.R_drew)); exact HO317.out) hb); have n3_ := Aside0.mk (below_step (by repeat (first | (with_reducible first | exact HB.out | apply below_alloc | apply pw_below_drewN | apply below_drew1) | exact HB.out)) hb); have n4_ := Aside0.mk (hbox); have n5_ := Aside0.mk ((by rw [hg]; exact (below_size (by repeat (first | (with_reducible first | exact HB.out | apply below_alloc | apply pw_below_drewN | apply below_drew1) | exact HB.out))) : w.heap.size ≤ gb318)); have n6_ := Aside0.mk ((by rw [hg]; exact (below_size (by repeat (first | (with_reducible first | exact HB.out | apply below_alloc | apply pw_below_drewN | apply below_drew1) | exact HB.out))) : w.heap.size ≤ gb318)); clear HO311; clear HO314; clear HO317; clear HB; have HO311 := n0_; have HO314 := n1_; have HO317 := n2_; have HB := n3_; have BK318 := n4_; have GW318 := n5_; have GE318 := n6_; clear n0_ n1_ n2_ n3_ n4_ n5_ n6_; clear hb hbox hg; obtain ⟨Ao24, co24, eo24⟩ := Kd.R_slice HO311.out; subst eo24; have hcz25_0 : w23.cell? ⟨gb318, 0, none⟩ = some (.slice none 0 0) := (blk_cell BK318.out 0).trans rfl; have hcz25_1 : w23.cell? ⟨gb318, 1, none⟩ = some (.slice none 0 0) := (blk_cell BK318.out 1).trans rfl; have hcz25_2 : w23.cell? ⟨gb318, 2, none⟩ = some (.slice none 0 0) := (blk_cell BK318.out 2).trans rfl; have hfz25_0 := blk_frozen BK318.out 0; have hfz25_1 := blk_frozen BK318.out 1; have hfz25_2 := blk_frozen BK318.out 2; obtain ⟨Ao26, co26, eo26⟩ := Kd.R_slice HO314.out; subst eo26; obtain ⟨Ao27, co27, eo27⟩ := Kd.R_slice HO317.out; subst eo27))
        repeat (go_quiet (first | (go_at_call 8; (with_reducible refine (seneschallaw17_awake.calls  true _ A3.out).mono ?_); rintro e w20 ⟨rfl, hb⟩; have n0_ := Aside0.mk (below_step (by repeat (first | (with_reducible first | exact HB.out | apply below_alloc | apply pw_below_drewN | apply below_drew1) | exact HB.out)) hb); clear HB; have HB := n0_; clear n0_; (try clear hb); (try clear hb2); (try clear hk); (try clear hi)) | (go_at_call 9; (with_reducible refine (seneschallaw17_great.calls k _ _ l0 false _ ?side1 ?side2 A5.out).mono ?_); (case side1 => repeat (first | exact (Kd.C_below HR0.out HB.out) | (with_reducible refine Kd.C_alloc ?_ _) | (with_reducible refine Kd.C_drewN ?_ _) | (with_reducible refine Kd.C_drew ?_))); (case side2 => exact HC0.out); rintro e w' ⟨rfl, ⟨nd, rfl⟩⟩; (try first | exact ⟨rfl, _, World.drewN_drewN _ _ _⟩ | exact ⟨rfl, _, Eq.trans (World.drewN_drewN _ _ _) (congrArg (World.drewN _) (Nat.add_assoc _ _ _))⟩)) | (go_at_call 15; (with_reducible refine (past_Needed.calls _ _ l0 (wrap64 (1 + (wrap64 (Int.tmod (IntKind.u64.wrap (a1)) 1000)))) t308 _ ?side1 ?side2 A8.out).mono ?_); (case side1 => repeat (first | exact (Kd.C_below HR0.out (by repeat (first | (with_reducible first | exact HB.out | apply below_alloc | apply pw_below_drewN | apply below_drew1) | exact HB.out))) | (with_reducible refine Kd.C_alloc ?_ _) | (with_reducible refine Kd.C_drewN ?_ _) | (with_reducible refine Kd.C_drew ?_))); (case side2 => exact HC0.out); rintro e w21 ⟨rfl, hb⟩; have n0_ := Aside0.mk (below_step (by repeat (first | (with_reducible first | exact HB.out | apply below_alloc | apply pw_below_drewN | apply below_drew1) | exact HB.out)) hb); clear HB; have HB := n0_; clear n0_; (try clear hb); (try clear hb2); (try clear hk); (try clear hi)) | (go_at_call 13; (with_reducible refine (past_Read.calls _ _ l0 (wrap64 (1 + (wrap64 (Int.tmod (IntKind.u64.wrap (a1)) 1000)))) t309 t312 t315 _ ?side1 ?side2 A9.out).mono ?_); (case side1 => repeat (first | exact (Kd.C_below HR0.out HB.out) | (with_reducible refine Kd.C_alloc ?_ _) | (with_reducible refine Kd.C_drewN ?_ _) | (with_reducible refine Kd.C_drew ?_))); (case side2 => exact HC0.out); rintro e w22 ⟨v310, v313, v316, rfl, ho0, ho1, ho2, hb⟩; have n0_ := Aside0.mk (Kd.R_lower ho0 (below_size (by repeat (first | (with_reducible first | exact HB.out | apply below_alloc | apply pw_below_drewN | apply below_drew1) | exact HB.out)))); have n1_ := Aside0.mk (Kd.R_lower ho1 (below_size (by repeat (first | (with_reducible first | exact HB.out | apply below_alloc | apply pw_below_drewN | apply below_drew1) | exact HB.out)))); have n2_ := Aside0.mk (Kd.R_lower ho2 (below_size (by repeat (first | (with_reducible first | exact HB.out | apply below_alloc | apply pw_below_drewN | apply below_drew1) | exact HB.out)))); have n3_ := Aside0.mk (below_step (by repeat (first | (with_reducible first | exact HB.out | apply below_alloc | apply pw_below_drewN | apply below_drew1) | exact HB.out)) hb); clear HB; have HO311 := n0_; have HO314 := n1_; have HO317 := n2_; have HB := n3_; clear n0_ n1_ n2_ n3_; (try clear hb); (try clear hb2); (try clear hk); (try clear hi); (try clear ho0); (try clear ho1); (try clear ho2)) | ((with_reducible refine gate_dst (N := 6) rfl ?_); (try (refine gate_guard (by rfl) ?_; dsimp only)); refine box_event ?hg (N := 6) ?hd (cs := #[.slice none 0 0, .slice none 0 0, .slice none 0 0]) (t := 37) ?hr ?_; (case hd => rfl); (case hg => rfl); (case hr => first | (go_simp; done) | (go_simp; rfl)); intro gb318 hg w23 hbox hb; have n0_ := Aside0.mk (Kd.R_below (by (with_reducible repeat (first | apply Kd.R_alloc | apply Kd.R_drewN | apply Kd.R_drew)); exact HO311.out) hb); have n1_ := Aside0.mk (Kd.R_below (by (with_reducible repeat (first | apply Kd.R_alloc | apply Kd.R_drewN | apply Kd.R_drew)); exact HO314.out) hb); have n2_ := Aside0.mk (Kd.R_below (by (with_reducible repeat (first | apply Kd.R_alloc | apply Kd.R_drewN | apply Kd.R_drew)); exact HO317.out) hb); have n3_ := Aside0.mk (below_step (by repeat (first | (with_reducible first | exact HB.out | apply below_alloc | apply pw_below_drewN | apply below_drew1) | exact HB.out)) hb); have n4_ := Aside0.mk (hbox); have n5_ := Aside0.mk ((by rw [hg]; exact (below_size (by repeat (first | (with_reducible first | exact HB.out | apply below_alloc | apply pw_below_drewN | apply below_drew1) | exact HB.out))) : w.heap.size ≤ gb318)); have n6_ := Aside0.mk ((by rw [hg]; exact (below_size (by repeat (first | (with_reducible first | exact HB.out | apply below_alloc | apply pw_below_drewN | apply below_drew1) | exact HB.out))) : w.heap.size ≤ gb318)); clear HO311; clear HO314; clear HO317; clear HB; have HO311 := n0_; have HO314 := n1_; have HO317 := n2_; have HB := n3_; have BK318 := n4_; have GW318 := n5_; have GE318 := n6_; clear n0_ n1_ n2_ n3_ n4_ n5_ n6_; clear hb hbox hg; obtain ⟨Ao24, co24, eo24⟩ := Kd.R_slice HO311.out; subst eo24; have hcz25_0 : w23.cell? ⟨gb318, 0, none⟩ = some (.slice none 0 0) := (blk_cell BK318.out 0).trans rfl; have hcz25_1 : w23.cell? ⟨gb318, 1, none⟩ = some (.slice none 0 0) := (blk_cell BK318.out 1).trans rfl; have hcz25_2 : w23.cell? ⟨gb318, 2, none⟩ = some (.slice none 0 0) := (blk_cell BK318.out 2).trans rfl; have hfz25_0 := blk_frozen BK318.out 0; have hfz25_1 := blk_frozen BK318.out 1; have hfz25_2 := blk_frozen BK318.out 2; obtain ⟨Ao26, co26, eo26⟩ := Kd.R_slice HO314.out; subst eo26; obtain ⟨Ao27, co27, eo27⟩ := Kd.R_slice HO317.out; subst eo27)); go_upto_region 10 with (first | (go_at_call 8; (with_reducible refine (seneschallaw17_awake.calls  true _ A3.out).mono ?_); rintro e w20 ⟨rfl, hb⟩; have n0_ := Aside0.mk (below_step (by repeat (first | (with_reducible first | exact HB.out | apply below_alloc | apply pw_below_drewN | apply below_drew1) | exact HB.out)) hb); clear HB; have HB := n0_; clear n0_; (try clear hb); (try clear hb2); (try clear hk); (try clear hi)) | (go_at_call 9; (with_reducible refine (seneschallaw17_great.calls k _ _ l0 false _ ?side1 ?side2 A5.out).mono ?_); (case side1 => repeat (first | exact (Kd.C_below HR0.out HB.out) | (with_reducible refine Kd.C_alloc ?_ _) | (with_reducible refine Kd.C_drewN ?_ _) | (with_reducible refine Kd.C_drew ?_))); (case side2 => exact HC0.out); rintro e w' ⟨rfl, ⟨nd, rfl⟩⟩; (try first | exact ⟨rfl, _, World.drewN_drewN _ _ _⟩ | exact ⟨rfl, _, Eq.trans (World.drewN_drewN _ _ _) (congrArg (World.drewN _) (Nat.add_assoc _ _ _))⟩)) | (go_at_call 15; (with_reducible refine (past_Needed.calls _ _ l0 (wrap64 (1 + (wrap64 (Int.tmod (IntKind.u64.wrap (a1)) 1000)))) t308 _ ?side1 ?side2 A8.out).mono ?_); (case side1 => repeat (first | exact (Kd.C_below HR0.out (by repeat (first | (with_reducible first | exact HB.out | apply below_alloc | apply pw_below_drewN | apply below_drew1) | exact HB.out))) | (with_reducible refine Kd.C_alloc ?_ _) | (with_reducible refine Kd.C_drewN ?_ _) | (with_reducible refine Kd.C_drew ?_))); (case side2 => exact HC0.out); rintro e w21 ⟨rfl, hb⟩; have n0_ := Aside0.mk (below_step (by repeat (first | (with_reducible first | exact HB.out | apply below_alloc | apply pw_below_drewN | apply below_drew1) | exact HB.out)) hb); clear HB; have HB := n0_; clear n0_; (try clear hb); (try clear hb2); (try clear hk); (try clear hi)) | (go_at_call 13; (with_reducible refine (past_Read.calls _ _ l0 (wrap64 (1 + (wrap64 (Int.tmod (IntKind.u64.wrap (a1)) 1000)))) t309 t312 t315 _ ?side1 ?side2 A9.out).mono ?_); (case side1 => repeat (first | exact (Kd.C_below HR0.out HB.out) | (with_reducible refine Kd.C_alloc ?_ _) | (with_reducible refine Kd.C_drewN ?_ _) | (with_reducible refine Kd.C_drew ?_))); (case side2 => exact HC0.out); rintro e w22 ⟨v310, v313, v316, rfl, ho0, ho1, ho2, hb⟩; have n0_ := Aside0.mk (Kd.R_lower ho0 (below_size (by repeat (first | (with_reducible first | exact HB.out | apply below_alloc | apply pw_below_drewN | apply below_drew1) | exact HB.out)))); have n1_ := Aside0.mk (Kd.R_lower ho1 (below_size (by repeat (first | (with_reducible first | exact HB.out | apply below_alloc | apply pw_below_drewN | apply below_drew1) | exact HB.out)))); have n2_ := Aside0.mk (Kd.R_lower ho2 (below_size (by repeat (first | (with_reducible first | exact HB.out | apply below_alloc | apply pw_below_drewN | apply below_drew1) | exact HB.out)))); have n3_ := Aside0.mk (below_step (by repeat (first | (with_reducible first | exact HB.out | apply below_alloc | apply pw_below_drewN | apply below_drew1) | exact HB.out)) hb); clear HB; have HO311 := n0_; have HO314 := n1_; have HO317 := n2_; have HB := n3_; clear n0_ n1_ n2_ n3_; (try clear hb); (try clear hb2); (try clear hk); (try clear hi); (try clear ho0); (try clear ho1); (try clear ho2)) | ((with_reducible refine gate_dst (N := 6) rfl ?_); (try (refine gate_guard (by rfl) ?_; dsimp only)); refine box_event ?hg (N := 6) ?hd (cs := #[.slice none 0 0, .slice none 0 0, .slice none 0 0]) (t := 37) ?hr ?_; (case hd => rfl); (case hg => rfl); (case hr => first | (go_simp; done) | (go_simp; rfl)); intro gb318 hg w23 hbox hb; have n0_ := Aside0.mk (Kd.R_below (by (with_reducible repeat (first | apply Kd.R_alloc | apply Kd.R_drewN | apply Kd.R_drew)); exact HO311.out) hb); have n1_ := Aside0.mk (Kd.R_below (by (with_reducible repeat (first | apply Kd.R_alloc | apply Kd.R_drewN | apply Kd.R_drew)); exact HO314.out) hb); have n2_ := Aside0.mk (Kd.R_below (by (with_reducible repeat (first | apply Kd.R_alloc | apply Kd.R_drewN | apply Kd.R_drew)); exact HO317.out) hb); have n3_ := Aside0.mk (below_step (by repeat (first | (with_reducible first | exact HB.out | apply below_alloc | apply pw_below_drewN | apply below_drew1) | exact HB.out)) hb); have n4_ := Aside0.mk (hbox); have n5_ := Aside0.mk ((by rw [hg]; exact (below_size (by repeat (first | (with_reducible first | exact HB.out | apply below_alloc | apply pw_below_drewN | apply below_drew1) | exact HB.out))) : w.heap.size ≤ gb318)); have n6_ := Aside0.mk ((by rw [hg]; exact (below_size (by repeat (first | (with_reducible first | exact HB.out | apply below_alloc | apply pw_below_drewN | apply below_drew1) | exact HB.out))) : w.heap.size ≤ gb318)); clear HO311; clear HO314; clear HO317; clear HB; have HO311 := n0_; have HO314 := n1_; have HO317 := n2_; have HB := n3_; have BK318 := n4_; have GW318 := n5_; have GE318 := n6_; clear n0_ n1_ n2_ n3_ n4_ n5_ n6_; clear hb hbox hg; obtain ⟨Ao24, co24, eo24⟩ := Kd.R_slice HO311.out; subst eo24; have hcz25_0 : w23.cell? ⟨gb318, 0, none⟩ = some (.slice none 0 0) := (blk_cell BK318.out 0).trans rfl; have hcz25_1 : w23.cell? ⟨gb318, 1, none⟩ = some (.slice none 0 0) := (blk_cell BK318.out 1).trans rfl; have hcz25_2 : w23.cell? ⟨gb318, 2, none⟩ = some (.slice none 0 0) := (blk_cell BK318.out 2).trans rfl; have hfz25_0 := blk_frozen BK318.out 0; have hfz25_1 := blk_frozen BK318.out 1; have hfz25_2 := blk_frozen BK318.out 2; obtain ⟨Ao26, co26, eo26⟩ := Kd.R_slice HO314.out; subst eo26; obtain ⟨Ao27, co27, eo27⟩ := Kd.R_slice HO317.out; subst eo27)))
        (try simp only [Act.put, List.setIfInBounds_toArray, List.set_cons_zero, List.set_cons_succ])
        go_cut [41] (fun v41 wc => ∃ (kq : Nat) (x41_18 : Bool), v41 = .bool x41_18 ∧ Aside0 (seneschallaw17_PastNeeds.j0 kq l0 (wrap64 (1 + (wrap64 (Int.tmod (IntKind.u64.wrap (a1)) 1000)))) t308 x41_18 t309 t312 t315 = some r) ∧ Aside0 (kq ≤ k) ∧ Aside0 (Kd.R k43 43 wc w.heap.size (fun _ => True) (.slice Ao24 t309.length co24) t309) ∧ Aside0 (Kd.R k24 24 wc w.heap.size (fun _ => True) (.slice Ao26 t312.length co26) t312) ∧ Aside0 (Kd.R k45 45 wc w.heap.size (fun _ => True) (.slice Ao27 t315.length co27) t315) ∧ Aside0 (wc.heap[gb318]? = some (.cells #[(.slice Ao24 t309.length co24), (.slice Ao26 t312.length co26), (.slice Ao27 t315.length co27)] 37 (0, 0))) ∧ Aside0 (Below w.heap.size w wc))
        case first =>
          have H := HC19.out
          clear HC19
          by_cases c28 : t308 < (wrap64 (1 + (wrap64 (Int.tmod (IntKind.u64.wrap (a1)) 1000))))
          · rw [if_pos c28] at H
            have c28b0 : decide (t308 < (wrap64 (1 + (wrap64 (Int.tmod (IntKind.u64.wrap (a1)) 1000))))) = true := decide_eq_true c28
            clear c28
            (first | rw [c28b0] | (simp only [i64_w, i32_w]; rw [c28b0]) | skip)
            have H' := Aside0.mk H
            clear H
            go_wp2
            repeat (go_quiet (fail); try go_wp2)
            go_meet
            case rel => exact ⟨_, (true), (by first | rfl | (simp; done) | (simp [*]; done)), H', ⟨by first | omega | exact Nat.le_refl _⟩, ⟨by (with_reducible repeat (first | apply Kd.R_alloc | apply Kd.R_drewN | apply Kd.R_drew)); exact Kd.R_mono (Kd.R_far (p := ⟨gb318, 2, none⟩) (Kd.R_far (p := ⟨gb318, 1, none⟩) (Kd.R_far (p := ⟨gb318, 0, none⟩) (Kd.R_types HO311.out BK318.out (by decide)) (fun _ hk => hk.2) (.slice Ao24 t309.length co24)) (fun _ hk => hk.2) (.slice Ao26 t312.length co26)) (fun _ hk => hk.2) (.slice Ao27 t315.length co27)) (fun _ hk => trivial)⟩, ⟨by (with_reducible repeat (first | apply Kd.R_alloc | apply Kd.R_drewN | apply Kd.R_drew)); exact Kd.R_mono (Kd.R_far (p := ⟨gb318, 2, none⟩) (Kd.R_far (p := ⟨gb318, 1, none⟩) (Kd.R_far (p := ⟨gb318, 0, none⟩) (Kd.R_types HO314.out BK318.out (by decide)) (fun _ hk => hk.2) (.slice Ao24 t309.length co24)) (fun _ hk => hk.2) (.slice Ao26 t312.length co26)) (fun _ hk => hk.2) (.slice Ao27 t315.length co27)) (fun _ hk => trivial)⟩, ⟨by (with_reducible repeat (first | apply Kd.R_alloc | apply Kd.R_drewN | apply Kd.R_drew)); exact Kd.R_mono (Kd.R_far (p := ⟨gb318, 2, none⟩) (Kd.R_far (p := ⟨gb318, 1, none⟩) (Kd.R_far (p := ⟨gb318, 0, none⟩) (Kd.R_types HO317.out BK318.out (by decide)) (fun _ hk => hk.2) (.slice Ao24 t309.length co24)) (fun _ hk => hk.2) (.slice Ao26 t312.length co26)) (fun _ hk => hk.2) (.slice Ao27 t315.length co27)) (fun _ hk => trivial)⟩, ⟨by (with_reducible repeat (first | refine blk_drewN ?_ _ | refine blk_drew ?_ | refine blk_alloc ?_ _)); refine blk_put (cs := #[.slice Ao24 t309.length co24, .slice Ao26 t312.length co26, .slice none 0 0]) ?_ 2 _ rfl; (with_reducible repeat (first | refine blk_drewN ?_ _ | refine blk_drew ?_ | refine blk_alloc ?_ _)); refine blk_put (cs := #[.slice Ao24 t309.length co24, .slice none 0 0, .slice none 0 0]) ?_ 1 _ rfl; (with_reducible repeat (first | refine blk_drewN ?_ _ | refine blk_drew ?_ | refine blk_alloc ?_ _)); refine blk_put (cs := #[.slice none 0 0, .slice none 0 0, .slice none 0 0]) ?_ 0 _ rfl; (with_reducible repeat (first | refine blk_drewN ?_ _ | refine blk_drew ?_ | refine blk_alloc ?_ _)); exact BK318.out⟩, ⟨by repeat (first | (with_reducible first | exact HB.out | apply below_alloc | apply pw_below_drewN | apply below_drew1 | refine below_set ?_ GE318.out) | exact HB.out)⟩⟩
          · rw [if_neg c28] at H
            have c28b0 : decide (t308 < (wrap64 (1 + (wrap64 (Int.tmod (IntKind.u64.wrap (a1)) 1000))))) = false := decide_eq_false c28
            clear c28
            (first | rw [c28b0] | (simp only [i64_w, i32_w]; rw [c28b0]) | skip)
            have H' := Aside0.mk H
            clear H
            go_wp2
            repeat (go_quiet (fail); try go_wp2)
            go_meet
            case rel => exact ⟨_, (decide ((wrap64 (t308 - (wrap64 (1 + (wrap64 (Int.tmod (IntKind.u64.wrap (a1)) 1000)))))) ≥ (l0.length : Int))), (by first | rfl | (simp; done) | (simp [*]; done)), H', ⟨by first | omega | exact Nat.le_refl _⟩, ⟨by (with_reducible repeat (first | apply Kd.R_alloc | apply Kd.R_drewN | apply Kd.R_drew)); exact Kd.R_mono (Kd.R_far (p := ⟨gb318, 2, none⟩) (Kd.R_far (p := ⟨gb318, 1, none⟩) (Kd.R_far (p := ⟨gb318, 0, none⟩) (Kd.R_types HO311.out BK318.out (by decide)) (fun _ hk => hk.2) (.slice Ao24 t309.length co24)) (fun _ hk => hk.2) (.slice Ao26 t312.length co26)) (fun _ hk => hk.2) (.slice Ao27 t315.length co27)) (fun _ hk => trivial)⟩, ⟨by (with_reducible repeat (first | apply Kd.R_alloc | apply Kd.R_drewN | apply Kd.R_drew)); exact Kd.R_mono (Kd.R_far (p := ⟨gb318, 2, none⟩) (Kd.R_far (p := ⟨gb318, 1, none⟩) (Kd.R_far (p := ⟨gb318, 0, none⟩) (Kd.R_types HO314.out BK318.out (by decide)) (fun _ hk => hk.2) (.slice Ao24 t309.length co24)) (fun _ hk => hk.2) (.slice Ao26 t312.length co26)) (fun _ hk => hk.2) (.slice Ao27 t315.length co27)) (fun _ hk => trivial)⟩, ⟨by (with_reducible repeat (first | apply Kd.R_alloc | apply Kd.R_drewN | apply Kd.R_drew)); exact Kd.R_mono (Kd.R_far (p := ⟨gb318, 2, none⟩) (Kd.R_far (p := ⟨gb318, 1, none⟩) (Kd.R_far (p := ⟨gb318, 0, none⟩) (Kd.R_types HO317.out BK318.out (by decide)) (fun _ hk => hk.2) (.slice Ao24 t309.length co24)) (fun _ hk => hk.2) (.slice Ao26 t312.length co26)) (fun _ hk => hk.2) (.slice Ao27 t315.length co27)) (fun _ hk => trivial)⟩, ⟨by (with_reducible repeat (first | refine blk_drewN ?_ _ | refine blk_drew ?_ | refine blk_alloc ?_ _)); refine blk_put (cs := #[.slice Ao24 t309.length co24, .slice Ao26 t312.length co26, .slice none 0 0]) ?_ 2 _ rfl; (with_reducible repeat (first | refine blk_drewN ?_ _ | refine blk_drew ?_ | refine blk_alloc ?_ _)); refine blk_put (cs := #[.slice Ao24 t309.length co24, .slice none 0 0, .slice none 0 0]) ?_ 1 _ rfl; (with_reducible repeat (first | refine blk_drewN ?_ _ | refine blk_drew ?_ | refine blk_alloc ?_ _)); refine blk_put (cs := #[.slice none 0 0, .slice none 0 0, .slice none 0 0]) ?_ 0 _ rfl; (with_reducible repeat (first | refine blk_drewN ?_ _ | refine blk_drew ?_ | refine blk_alloc ?_ _)); exact BK318.out⟩, ⟨by repeat (first | (with_reducible first | exact HB.out | apply below_alloc | apply pw_below_drewN | apply below_drew1 | refine below_set ?_ GE318.out) | exact HB.out)⟩⟩
        case rest =>
          clear HC19
          try clear c1
          try clear c2
          try clear p2
          try clear c4
          try clear c5
          try clear c6
          try clear p6
          try clear c10
          try clear c10b0
          try clear c10b1
          try clear c28
          try clear c28b0
          try clear hcz16_0
          try clear hcz16_1
          try clear hcz16_2
          try clear hcz25_0
          try clear hcz25_1
          try clear hcz25_2
          try clear hfz16_0
          try clear hfz16_1
          try clear hfz16_2
          try clear hfz25_0
          try clear hfz25_1
          try clear hfz25_2
          obtain ⟨kq, x41_18, rfl, HA, HJ18, HO_319000, HO_319001, HO_319002, BK318, HB⟩ := hcut
          cases kq with
          | zero => exact absurd HA.out (by simp [seneschallaw17_PastNeeds.j0])
          | succ kj18 =>
            have H := HA.out
            clear HA
            simp only [seneschallaw17_PastNeeds.j0] at H
            by_cases c29 : x41_18 = true
            · subst c29
              have H1 : (some false) = some r := by rw [if_pos rfl] at H; exact H
              clear H
              have H := H1
              clear H1
              obtain rfl := Option.some.inj H
              go_wp2
              repeat (go_quiet (fail); try go_wp2)
              go_ret
              exact ⟨by first | rfl | (simp [errW_none, errW_some] <;> rfl) | (simp [*, errW_none, errW_some] <;> rfl), by repeat (first | (with_reducible first | exact HB.out | apply below_alloc | apply pw_below_drewN | apply below_drew1 | refine below_set ?_ GE318.out) | exact HB.out)⟩
            · replace c29 := Bool.eq_false_iff.mpr c29
              subst c29
              have H1 : (if 0 ≤ (wrap64 (t308 - (wrap64 (1 + (wrap64 (Int.tmod (IntKind.u64.wrap (a1)) 1000)))))) then (if (wrap64 (t308 - (wrap64 (1 + (wrap64 (Int.tmod (IntKind.u64.wrap (a1)) 1000)))))) ≤ (l0.length : Int) then ((past_Read.f (l0.drop ((wrap64 (t308 - (wrap64 (1 + (wrap64 (Int.tmod (IntKind.u64.wrap (a1)) 1000)))))) : Int).toNat) t308).bind fun bt323 => (if (t309.length : Int) = 0 then (seneschallaw17_PastNeeds.j1 kj18 true t309 t312 t315 bt323.1 bt323.2.1 bt323.2.2) else (seneschallaw17_PastNeeds.j1 kj18 (decide ((bt323.1.length : Int) < (t309.length : Int))) t309 t312 t315 bt323.1 bt323.2.1 bt323.2.2))) else (none)) else (none)) = some r := by rw [if_neg (show ¬ (false = true) by decide)] at H; exact H
              clear H
              have H := H1
              clear H1
              obtain ⟨ji30, hji30⟩ : ∃ j_ : Int, (wrap64 (t308 - (wrap64 (1 + (wrap64 (Int.tmod (IntKind.u64.wrap (a1)) 1000)))))) = j_ := ⟨_, rfl⟩
              replace H : (if 0 ≤ (ji30) then (if (ji30) ≤ (l0.length : Int) then ((past_Read.f (l0.drop ((ji30) : Int).toNat) t308).bind fun bt323 => (if (t309.length : Int) = 0 then (seneschallaw17_PastNeeds.j1 kj18 true t309 t312 t315 bt323.1 bt323.2.1 bt323.2.2) else (seneschallaw17_PastNeeds.j1 kj18 (decide ((bt323.1.length : Int) < (t309.length : Int))) t309 t312 t315 bt323.1 bt323.2.1 bt323.2.2))) else (none)) else (none)) = some r := by first | (rw [hji30] at H; exact H) | (simp only [hji30] at H ⊢; exact H)
              have hji30w : (IntKind.i64.wrap (t308 - (wrap64 (1 + (wrap64 (Int.tmod (IntKind.u64.wrap (a1)) 1000)))))) = ji30 := (i64_w _).trans hji30
              by_cases c31 : 0 ≤ (ji30)
              · rw [if_pos c31] at H
                have c31b0 := eq_true c31
                have c31b1 : decide (0 ≤ (ji30)) = true := decide_eq_true c31
                clear c31
                by_cases c32 : (ji30) ≤ (l0.length : Int)
                · rw [if_pos c32] at H
                  have c32b0 := eq_true c32
                  have c32b1 : decide ((ji30) ≤ (l0.length : Int)) = true := decide_eq_true c32
                  clear c32
                  obtain ⟨y319, hy319⟩ : ∃ y_ : List (S31), y_ = (l0.drop ((ji30) : Int).toNat) := ⟨_, rfl⟩
                  replace H : ((past_Read.f y319 t308).bind fun bt323 => (if (t309.length : Int) = 0 then (seneschallaw17_PastNeeds.j1 kj18 true t309 t312 t315 bt323.1 bt323.2.1 bt323.2.2) else (seneschallaw17_PastNeeds.j1 kj18 (decide ((bt323.1.length : Int) < (t309.length : Int))) t309 t312 t315 bt323.1 bt323.2.1 bt323.2.2))) = some r := by first | (rw [hy319]; with_reducible exact H) | (have H2_ := (Option.bind_some _ _).symm.trans H; rw [hy319]; with_reducible exact H2_) | (have H2_ := (Option.bind_some _ _).symm.trans H; with_reducible exact H2_) | with_reducible exact H | (rw [hy319]; exact H) | exact H
                  have Ny319 := Aside0.mk hy319
                  clear hy319
                  replace H := Option.bind_eq_some_iff.mp H
                  obtain ⟨⟨t323, t326, t329⟩, A330, H⟩ := H
                  replace H : (if (t309.length : Int) = 0 then (seneschallaw17_PastNeeds.j1 kj18 true t309 t312 t315 t323 t326 t329) else (seneschallaw17_PastNeeds.j1 kj18 (decide ((t323.length : Int) < (t309.length : Int))) t309 t312 t315 t323 t326 t329)) = some r := H
                  have A33 := Aside0.mk A330
                  clear A330
                  have HC34 := Aside0.mk H
                  clear H
                  have q35 : ((ji30) : Int) ≤ ((l0.length : Int) : Int) := of_decide_eq_true (by first | (with_reducible assumption) | assumption)
                  obtain ⟨i035, hi035, _, hsz35, _⟩ := info_parts info31
                  have hroom35 : l0.length ≤ c0 := HC0.out
                  have hC35 : Kd.C k31 _ A0 l0.length l0 := HR0.out
                  have q035 : (0 : Int) ≤ ((ji30) : Int) := of_decide_eq_true (by first | (with_reducible assumption) | assumption)
                  have hcut35 := cut_from (P := Try.prog) 22 31 .i64 Try.underlying22 hi035 13 hsz35 A0 l0.length c0 (ji30) q035 q35
                  have hr35 := Kd.C_drop (m := ((ji30) : Int).toNat) (c := c0) hC35 (by omega) hroom35
                  obtain ⟨A35, hA35⟩ : ∃ A1, A1 = (if c0 = ((ji30) : Int).toNat then A0 else (A0 : Option Addr).map (·.add (((ji30) : Int).toNat * 13))) := ⟨_, rfl⟩
                  obtain ⟨c35, hc35⟩ : ∃ c1, c1 = c0 - ((ji30) : Int).toNat := ⟨_, rfl⟩
                  have hy35 : y319.length = l0.length - ((ji30) : Int).toNat := (by rw [Ny319.out, List.length_drop] <;> omega)
                  rw [show (l0).drop ((ji30) : Int).toNat = y319 from Ny319.out.symm] at hr35
                  replace hr35 : Kd.C k31 _ A35 y319.length y319 := (by rw [hA35]; exact hr35)
                  rw [← hy35, ← hA35, ← hc35] at hcut35
                  have HR322 := Aside0.mk hr35
                  have HC322 := Aside0.mk (show y319.length ≤ c35 from by rw [hy35, hc35]; exact Nat.sub_le_sub_right hroom35 _)
                  clear hr35 hC35 hroom35 hi035 hsz35 hc35
                  have KY35 := Aside0.mk hy35
                  have KA35 := Aside0.mk hA35
                  clear hy35 hA35
                  replace q35 := eq_true q35
                  go_upto_region 13 with (first | (go_at_call 13; (with_reducible refine (past_Read.calls _ _ y319 t308 t323 t326 t329 _ ?side1 ?side2 A33.out).mono ?_); (case side1 => repeat (first | exact (Kd.C_below HR322.out HB.out) | (with_reducible refine Kd.C_alloc ?_ _) | (with_reducible refine Kd.C_drewN ?_ _) | (with_reducible refine Kd.C_drew ?_))); (case side2 => exact HC322.out); rintro e w36 ⟨v324, v327, v330, rfl, ho0, ho1, ho2, hb⟩; have n0_ := Aside0.mk (Kd.R_elder' (by (with_reducible repeat (first | apply Kd.R_alloc | apply Kd.R_drewN | apply Kd.R_drew)); exact HO_319000.out) (Kd.R_base ho0) hb); have n1_ := Aside0.mk (Kd.R_elder' (by (with_reducible repeat (first | apply Kd.R_alloc | apply Kd.R_drewN | apply Kd.R_drew)); exact HO_319001.out) (Kd.R_base ho1) hb); have n2_ := Aside0.mk (Kd.R_elder' (by (with_reducible repeat (first | apply Kd.R_alloc | apply Kd.R_drewN | apply Kd.R_drew)); exact HO_319002.out) (Kd.R_base ho2) hb); have n3_ := Aside0.mk (Kd.R_lower (Kd.R_new' ho0 (Kd.R_lt (by (with_reducible repeat (first | apply Kd.R_alloc | apply Kd.R_drewN | apply Kd.R_drew)); exact HO_319000.out))) (below_size (by repeat (first | (with_reducible first | exact HB.out | apply below_alloc | apply pw_below_drewN | apply below_drew1 | refine below_set ?_ GE318.out) | exact HB.out)))); have n4_ := Aside0.mk (Kd.R_lower (Kd.R_new' ho1 (Kd.R_lt (by (with_reducible repeat (first | apply Kd.R_alloc | apply Kd.R_drewN | apply Kd.R_drew)); exact HO_319001.out))) (below_size (by repeat (first | (with_reducible first | exact HB.out | apply below_alloc | apply pw_below_drewN | apply below_drew1 | refine below_set ?_ GE318.out) | exact HB.out)))); have n5_ := Aside0.mk (Kd.R_lower (Kd.R_new' ho2 (Kd.R_lt (by (with_reducible repeat (first | apply Kd.R_alloc | apply Kd.R_drewN | apply Kd.R_drew)); exact HO_319002.out))) (below_size (by repeat (first | (with_reducible first | exact HB.out | apply below_alloc | apply pw_below_drewN | apply below_drew1 | refine below_set ?_ GE318.out) | exact HB.out)))); have n6_ := Aside0.mk (blk_below (g := gb318) (o := .cells #[.slice Ao24 t309.length co24, .slice Ao26 t312.length co26, .slice Ao27 t315.length co27] 37 (0, 0)) (by (with_reducible repeat (first | refine blk_drewN ?_ _ | refine blk_drew ?_ | refine blk_alloc ?_ _)); exact BK318.out) hb); have n7_ := Aside0.mk (below_step (by repeat (first | (with_reducible first | exact HB.out | apply below_alloc | apply pw_below_drewN | apply below_drew1 | refine below_set ?_ GE318.out) | exact HB.out)) hb); clear HO_319000; clear HO_319001; clear HO_319002; clear BK318; clear HB; have HO_319000 := n0_; have HO_319001 := n1_; have HO_319002 := n2_; have HO325 := n3_; have HO328 := n4_; have HO331 := n5_; have BK318 := n6_; have HB := n7_; clear n0_ n1_ n2_ n3_ n4_ n5_ n6_ n7_; (try clear hb); (try clear hb2); (try clear hk); (try clear hi); (try clear ho0); (try clear ho1); (try clear ho2)) | ((with_reducible refine gate_dst (N := 7) rfl ?_); (try (refine gate_guard (by rfl) ?_; dsimp only)); refine box_event ?hg (N := 7) ?hd (cs := #[.slice none 0 0, .slice none 0 0, .slice none 0 0]) (t := 37) ?hr ?_; (case hd => rfl); (case hg => rfl); (case hr => first | (go_simp; done) | (go_simp; rfl)); intro gb332 hg w37 hbox hb; have n0_ := Aside0.mk (Kd.R_below (by (with_reducible repeat (first | apply Kd.R_alloc | apply Kd.R_drewN | apply Kd.R_drew)); exact HO_319000.out) hb); have n1_ := Aside0.mk (Kd.R_below (by (with_reducible repeat (first | apply Kd.R_alloc | apply Kd.R_drewN | apply Kd.R_drew)); exact HO_319001.out) hb); have n2_ := Aside0.mk (Kd.R_below (by (with_reducible repeat (first | apply Kd.R_alloc | apply Kd.R_drewN | apply Kd.R_drew)); exact HO_319002.out) hb); have n3_ := Aside0.mk (Kd.R_below (by (with_reducible repeat (first | apply Kd.R_alloc | apply Kd.R_drewN | apply Kd.R_drew)); exact HO325.out) hb); have n4_ := Aside0.mk (Kd.R_below (by (with_reducible repeat (first | apply Kd.R_alloc | apply Kd.R_drewN | apply Kd.R_drew)); exact HO328.out) hb); have n5_ := Aside0.mk (Kd.R_below (by (with_reducible repeat (first | apply Kd.R_alloc | apply Kd.R_drewN | apply Kd.R_drew)); exact HO331.out) hb); have n6_ := Aside0.mk (blk_below (g := gb318) (o := .cells #[.slice Ao24 t309.length co24, .slice Ao26 t312.length co26, .slice Ao27 t315.length co27] 37 (0, 0)) (by (with_reducible repeat (first | refine blk_drewN ?_ _ | refine blk_drew ?_ | refine blk_alloc ?_ _)); exact BK318.out) hb); have n7_ := Aside0.mk (below_step (by repeat (first | (with_reducible first | exact HB.out | apply below_alloc | apply pw_below_drewN | apply below_drew1 | refine below_set ?_ GE318.out) | exact HB.out)) hb); have n8_ := Aside0.mk (hbox); have n9_ := Aside0.mk ((by rw [hg]; exact (below_size (by repeat (first | (with_reducible first | exact HB.out | apply below_alloc | apply pw_below_drewN | apply below_drew1 | refine below_set ?_ GE318.out) | exact HB.out))) : w.heap.size ≤ gb332)); have n10_ := Aside0.mk ((by rw [hg]; exact (below_size (by repeat (first | (with_reducible first | exact HB.out | apply below_alloc | apply pw_below_drewN | apply below_drew1 | refine below_set ?_ GE318.out) | exact HB.out))) : w.heap.size ≤ gb332)); have n11_ := Aside0.mk ((by rw [hg]; exact Nat.ne_of_lt (blk_lt (g := gb318) (o := .cells #[.slice Ao24 t309.length co24, .slice Ao26 t312.length co26, .slice Ao27 t315.length co27] 37 (0, 0)) (by (with_reducible repeat (first | refine blk_drewN ?_ _ | refine blk_drew ?_ | refine blk_alloc ?_ _)); exact BK318.out)) : gb318 ≠ gb332)); have n12_ := Aside0.mk ((by rw [hg]; exact Nat.ne_of_gt (blk_lt (g := gb318) (o := .cells #[.slice Ao24 t309.length co24, .slice Ao26 t312.length co26, .slice Ao27 t315.length co27] 37 (0, 0)) (by (with_reducible repeat (first | refine blk_drewN ?_ _ | refine blk_drew ?_ | refine blk_alloc ?_ _)); exact BK318.out)) : gb332 ≠ gb318)); clear HO_319000; clear HO_319001; clear HO_319002; clear HO325; clear HO328; clear HO331; clear BK318; clear HB; have HO_319000 := n0_; have HO_319001 := n1_; have HO_319002 := n2_; have HO325 := n3_; have HO328 := n4_; have HO331 := n5_; have BK318 := n6_; have HB := n7_; have BK332 := n8_; have GW332 := n9_; have GE332 := n10_; have NB318_332 := n11_; have NB332_318 := n12_; clear n0_ n1_ n2_ n3_ n4_ n5_ n6_ n7_ n8_ n9_ n10_ n11_ n12_; clear hb hbox hg; obtain ⟨Ao38, co38, eo38⟩ := Kd.R_slice HO325.out; subst eo38; have hnb39 := NB332_318.out; have hnc39 := NB318_332.out; have hcz40_0 : w37.cell? ⟨gb332, 0, none⟩ = some (.slice none 0 0) := (blk_cell BK332.out 0).trans rfl; have hcz40_1 : w37.cell? ⟨gb332, 1, none⟩ = some (.slice none 0 0) := (blk_cell BK332.out 1).trans rfl; have hcz40_2 : w37.cell? ⟨gb332, 2, none⟩ = some (.slice none 0 0) := (blk_cell BK332.out 2).trans rfl; have hfz40_0 := blk_frozen BK332.out 0; have hfz40_1 := blk_frozen BK332.out 1; have hfz40_2 := blk_frozen BK332.out 2; obtain ⟨Ao41, co41, eo41⟩ := Kd.R_slice HO328.out; subst eo41; obtain ⟨Ao42, co42, eo42⟩ := Kd.R_slice HO331.out; subst eo42))
                  repeat (go_quiet (first | (go_at_call 13; (with_reducible refine (past_Read.calls _ _ y319 t308 t323 t326 t329 _ ?side1 ?side2 A33.out).mono ?_); (case side1 => repeat (first | exact (Kd.C_below HR322.out HB.out) | (with_reducible refine Kd.C_alloc ?_ _) | (with_reducible refine Kd.C_drewN ?_ _) | (with_reducible refine Kd.C_drew ?_))); (case side2 => exact HC322.out); rintro e w36 ⟨v324, v327, v330, rfl, ho0, ho1, ho2, hb⟩; have n0_ := Aside0.mk (Kd.R_elder' (by (with_reducible repeat (first | apply Kd.R_alloc | apply Kd.R_drewN | apply Kd.R_drew)); exact HO_319000.out) (Kd.R_base ho0) hb); have n1_ := Aside0.mk (Kd.R_elder' (by (with_reducible repeat (first | apply Kd.R_alloc | apply Kd.R_drewN | apply Kd.R_drew)); exact HO_319001.out) (Kd.R_base ho1) hb); have n2_ := Aside0.mk (Kd.R_elder' (by (with_reducible repeat (first | apply Kd.R_alloc | apply Kd.R_drewN | apply Kd.R_drew)); exact HO_319002.out) (Kd.R_base ho2) hb); have n3_ := Aside0.mk (Kd.R_lower (Kd.R_new' ho0 (Kd.R_lt (by (with_reducible repeat (first | apply Kd.R_alloc | apply Kd.R_drewN | apply Kd.R_drew)); exact HO_319000.out))) (below_size (by repeat (first | (with_reducible first | exact HB.out | apply below_alloc | apply pw_below_drewN | apply below_drew1 | refine below_set ?_ GE318.out) | exact HB.out)))); have n4_ := Aside0.mk (Kd.R_lower (Kd.R_new' ho1 (Kd.R_lt (by (with_reducible repeat (first | apply Kd.R_alloc | apply Kd.R_drewN | apply Kd.R_drew)); exact HO_319001.out))) (below_size (by repeat (first | (with_reducible first | exact HB.out | apply below_alloc | apply pw_below_drewN | apply below_drew1 | refine below_set ?_ GE318.out) | exact HB.out)))); have n5_ := Aside0.mk (Kd.R_lower (Kd.R_new' ho2 (Kd.R_lt (by (with_reducible repeat (first | apply Kd.R_alloc | apply Kd.R_drewN | apply Kd.R_drew)); exact HO_319002.out))) (below_size (by repeat (first | (with_reducible first | exact HB.out | apply below_alloc | apply pw_below_drewN | apply below_drew1 | refine below_set ?_ GE318.out) | exact HB.out)))); have n6_ := Aside0.mk (blk_below (g := gb318) (o := .cells #[.slice Ao24 t309.length co24, .slice Ao26 t312.length co26, .slice Ao27 t315.length co27] 37 (0, 0)) (by (with_reducible repeat (first | refine blk_drewN ?_ _ | refine blk_drew ?_ | refine blk_alloc ?_ _)); exact BK318.out) hb); have n7_ := Aside0.mk (below_step (by repeat (first | (with_reducible first | exact HB.out | apply below_alloc | apply pw_below_drewN | apply below_drew1 | refine below_set ?_ GE318.out) | exact HB.out)) hb); clear HO_319000; clear HO_319001; clear HO_319002; clear BK318; clear HB; have HO_319000 := n0_; have HO_319001 := n1_; have HO_319002 := n2_; have HO325 := n3_; have HO328 := n4_; have HO331 := n5_; have BK318 := n6_; have HB := n7_; clear n0_ n1_ n2_ n3_ n4_ n5_ n6_ n7_; (try clear hb); (try clear hb2); (try clear hk); (try clear hi); (try clear ho0); (try clear ho1); (try clear ho2)) | ((with_reducible refine gate_dst (N := 7) rfl ?_); (try (refine gate_guard (by rfl) ?_; dsimp only)); refine box_event ?hg (N := 7) ?hd (cs := #[.slice none 0 0, .slice none 0 0, .slice none 0 0]) (t := 37) ?hr ?_; (case hd => rfl); (case hg => rfl); (case hr => first | (go_simp; done) | (go_simp; rfl)); intro gb332 hg w37 hbox hb; have n0_ := Aside0.mk (Kd.R_below (by (with_reducible repeat (first | apply Kd.R_alloc | apply Kd.R_drewN | apply Kd.R_drew)); exact HO_319000.out) hb); have n1_ := Aside0.mk (Kd.R_below (by (with_reducible repeat (first | apply Kd.R_alloc | apply Kd.R_drewN | apply Kd.R_drew)); exact HO_319001.out) hb); have n2_ := Aside0.mk (Kd.R_below (by (with_reducible repeat (first | apply Kd.R_alloc | apply Kd.R_drewN | apply Kd.R_drew)); exact HO_319002.out) hb); have n3_ := Aside0.mk (Kd.R_below (by (with_reducible repeat (first | apply Kd.R_alloc | apply Kd.R_drewN | apply Kd.R_drew)); exact HO325.out) hb); have n4_ := Aside0.mk (Kd.R_below (by (with_reducible repeat (first | apply Kd.R_alloc | apply Kd.R_drewN | apply Kd.R_drew)); exact HO328.out) hb); have n5_ := Aside0.mk (Kd.R_below (by (with_reducible repeat (first | apply Kd.R_alloc | apply Kd.R_drewN | apply Kd.R_drew)); exact HO331.out) hb); have n6_ := Aside0.mk (blk_below (g := gb318) (o := .cells #[.slice Ao24 t309.length co24, .slice Ao26 t312.length co26, .slice Ao27 t315.length co27] 37 (0, 0)) (by (with_reducible repeat (first | refine blk_drewN ?_ _ | refine blk_drew ?_ | refine blk_alloc ?_ _)); exact BK318.out) hb); have n7_ := Aside0.mk (below_step (by repeat (first | (with_reducible first | exact HB.out | apply below_alloc | apply pw_below_drewN | apply below_drew1 | refine below_set ?_ GE318.out) | exact HB.out)) hb); have n8_ := Aside0.mk (hbox); have n9_ := Aside0.mk ((by rw [hg]; exact (below_size (by repeat (first | (with_reducible first | exact HB.out | apply below_alloc | apply pw_below_drewN | apply below_drew1 | refine below_set ?_ GE318.out) | exact HB.out))) : w.heap.size ≤ gb332)); have n10_ := Aside0.mk ((by rw [hg]; exact (below_size (by repeat (first | (with_reducible first | exact HB.out | apply below_alloc | apply pw_below_drewN | apply below_drew1 | refine below_set ?_ GE318.out) | exact HB.out))) : w.heap.size ≤ gb332)); have n11_ := Aside0.mk ((by rw [hg]; exact Nat.ne_of_lt (blk_lt (g := gb318) (o := .cells #[.slice Ao24 t309.length co24, .slice Ao26 t312.length co26, .slice Ao27 t315.length co27] 37 (0, 0)) (by (with_reducible repeat (first | refine blk_drewN ?_ _ | refine blk_drew ?_ | refine blk_alloc ?_ _)); exact BK318.out)) : gb318 ≠ gb332)); have n12_ := Aside0.mk ((by rw [hg]; exact Nat.ne_of_gt (blk_lt (g := gb318) (o := .cells #[.slice Ao24 t309.length co24, .slice Ao26 t312.length co26, .slice Ao27 t315.length co27] 37 (0, 0)) (by (with_reducible repeat (first | refine blk_drewN ?_ _ | refine blk_drew ?_ | refine blk_alloc ?_ _)); exact BK318.out)) : gb332 ≠ gb318)); clear HO_319000; clear HO_319001; clear HO_319002; clear HO325; clear HO328; clear HO331; clear BK318; clear HB; have HO_319000 := n0_; have HO_319001 := n1_; have HO_319002 := n2_; have HO325 := n3_; have HO328 := n4_; have HO331 := n5_; have BK318 := n6_; have HB := n7_; have BK332 := n8_; have GW332 := n9_; have GE332 := n10_; have NB318_332 := n11_; have NB332_318 := n12_; clear n0_ n1_ n2_ n3_ n4_ n5_ n6_ n7_ n8_ n9_ n10_ n11_ n12_; clear hb hbox hg; obtain ⟨Ao38, co38, eo38⟩ := Kd.R_slice HO325.out; subst eo38; have hnb39 := NB332_318.out; have hnc39 := NB318_332.out; have hcz40_0 : w37.cell? ⟨gb332, 0, none⟩ = some (.slice none 0 0) := (blk_cell BK332.out 0).trans rfl; have hcz40_1 : w37.cell? ⟨gb332, 1, none⟩ = some (.slice none 0 0) := (blk_cell BK332.out 1).trans rfl; have hcz40_2 : w37.cell? ⟨gb332, 2, none⟩ = some (.slice none 0 0) := (blk_cell BK332.out 2).trans rfl; have hfz40_0 := blk_frozen BK332.out 0; have hfz40_1 := blk_frozen BK332.out 1; have hfz40_2 := blk_frozen BK332.out 2; obtain ⟨Ao41, co41, eo41⟩ := Kd.R_slice HO328.out; subst eo41; obtain ⟨Ao42, co42, eo42⟩ := Kd.R_slice HO331.out; subst eo42)); go_upto_region 13 with (first | (go_at_call 13; (with_reducible refine (past_Read.calls _ _ y319 t308 t323 t326 t329 _ ?side1 ?side2 A33.out).mono ?_); (case side1 => repeat (first | exact (Kd.C_below HR322.out HB.out) | (with_reducible refine Kd.C_alloc ?_ _) | (with_reducible refine Kd.C_drewN ?_ _) | (with_reducible refine Kd.C_drew ?_))); (case side2 => exact HC322.out); rintro e w36 ⟨v324, v327, v330, rfl, ho0, ho1, ho2, hb⟩; have n0_ := Aside0.mk (Kd.R_elder' (by (with_reducible repeat (first | apply Kd.R_alloc | apply Kd.R_drewN | apply Kd.R_drew)); exact HO_319000.out) (Kd.R_base ho0) hb); have n1_ := Aside0.mk (Kd.R_elder' (by (with_reducible repeat (first | apply Kd.R_alloc | apply Kd.R_drewN | apply Kd.R_drew)); exact HO_319001.out) (Kd.R_base ho1) hb); have n2_ := Aside0.mk (Kd.R_elder' (by (with_reducible repeat (first | apply Kd.R_alloc | apply Kd.R_drewN | apply Kd.R_drew)); exact HO_319002.out) (Kd.R_base ho2) hb); have n3_ := Aside0.mk (Kd.R_lower (Kd.R_new' ho0 (Kd.R_lt (by (with_reducible repeat (first | apply Kd.R_alloc | apply Kd.R_drewN | apply Kd.R_drew)); exact HO_319000.out))) (below_size (by repeat (first | (with_reducible first | exact HB.out | apply below_alloc | apply pw_below_drewN | apply below_drew1 | refine below_set ?_ GE318.out) | exact HB.out)))); have n4_ := Aside0.mk (Kd.R_lower (Kd.R_new' ho1 (Kd.R_lt (by (with_reducible repeat (first | apply Kd.R_alloc | apply Kd.R_drewN | apply Kd.R_drew)); exact HO_319001.out))) (below_size (by repeat (first | (with_reducible first | exact HB.out | apply below_alloc | apply pw_below_drewN | apply below_drew1 | refine below_set ?_ GE318.out) | exact HB.out)))); have n5_ := Aside0.mk (Kd.R_lower (Kd.R_new' ho2 (Kd.R_lt (by (with_reducible repeat (first | apply Kd.R_alloc | apply Kd.R_drewN | apply Kd.R_drew)); exact HO_319002.out))) (below_size (by repeat (first | (with_reducible first | exact HB.out | apply below_alloc | apply pw_below_drewN | apply below_drew1 | refine below_set ?_ GE318.out) | exact HB.out)))); have n6_ := Aside0.mk (blk_below (g := gb318) (o := .cells #[.slice Ao24 t309.length co24, .slice Ao26 t312.length co26, .slice Ao27 t315.length co27] 37 (0, 0)) (by (with_reducible repeat (first | refine blk_drewN ?_ _ | refine blk_drew ?_ | refine blk_alloc ?_ _)); exact BK318.out) hb); have n7_ := Aside0.mk (below_step (by repeat (first | (with_reducible first | exact HB.out | apply below_alloc | apply pw_below_drewN | apply below_drew1 | refine below_set ?_ GE318.out) | exact HB.out)) hb); clear HO_319000; clear HO_319001; clear HO_319002; clear BK318; clear HB; have HO_319000 := n0_; have HO_319001 := n1_; have HO_319002 := n2_; have HO325 := n3_; have HO328 := n4_; have HO331 := n5_; have BK318 := n6_; have HB := n7_; clear n0_ n1_ n2_ n3_ n4_ n5_ n6_ n7_; (try clear hb); (try clear hb2); (try clear hk); (try clear hi); (try clear ho0); (try clear ho1); (try clear ho2)) | ((with_reducible refine gate_dst (N := 7) rfl ?_); (try (refine gate_guard (by rfl) ?_; dsimp only)); refine box_event ?hg (N := 7) ?hd (cs := #[.slice none 0 0, .slice none 0 0, .slice none 0 0]) (t := 37) ?hr ?_; (case hd => rfl); (case hg => rfl); (case hr => first | (go_simp; done) | (go_simp; rfl)); intro gb332 hg w37 hbox hb; have n0_ := Aside0.mk (Kd.R_below (by (with_reducible repeat (first | apply Kd.R_alloc | apply Kd.R_drewN | apply Kd.R_drew)); exact HO_319000.out) hb); have n1_ := Aside0.mk (Kd.R_below (by (with_reducible repeat (first | apply Kd.R_alloc | apply Kd.R_drewN | apply Kd.R_drew)); exact HO_319001.out) hb); have n2_ := Aside0.mk (Kd.R_below (by (with_reducible repeat (first | apply Kd.R_alloc | apply Kd.R_drewN | apply Kd.R_drew)); exact HO_319002.out) hb); have n3_ := Aside0.mk (Kd.R_below (by (with_reducible repeat (first | apply Kd.R_alloc | apply Kd.R_drewN | apply Kd.R_drew)); exact HO325.out) hb); have n4_ := Aside0.mk (Kd.R_below (by (with_reducible repeat (first | apply Kd.R_alloc | apply Kd.R_drewN | apply Kd.R_drew)); exact HO328.out) hb); have n5_ := Aside0.mk (Kd.R_below (by (with_reducible repeat (first | apply Kd.R_alloc | apply Kd.R_drewN | apply Kd.R_drew)); exact HO331.out) hb); have n6_ := Aside0.mk (blk_below (g := gb318) (o := .cells #[.slice Ao24 t309.length co24, .slice Ao26 t312.length co26, .slice Ao27 t315.length co27] 37 (0, 0)) (by (with_reducible repeat (first | refine blk_drewN ?_ _ | refine blk_drew ?_ | refine blk_alloc ?_ _)); exact BK318.out) hb); have n7_ := Aside0.mk (below_step (by repeat (first | (with_reducible first | exact HB.out | apply below_alloc | apply pw_below_drewN | apply below_drew1 | refine below_set ?_ GE318.out) | exact HB.out)) hb); have n8_ := Aside0.mk (hbox); have n9_ := Aside0.mk ((by rw [hg]; exact (below_size (by repeat (first | (with_reducible first | exact HB.out | apply below_alloc | apply pw_below_drewN | apply below_drew1 | refine below_set ?_ GE318.out) | exact HB.out))) : w.heap.size ≤ gb332)); have n10_ := Aside0.mk ((by rw [hg]; exact (below_size (by repeat (first | (with_reducible first | exact HB.out | apply below_alloc | apply pw_below_drewN | apply below_drew1 | refine below_set ?_ GE318.out) | exact HB.out))) : w.heap.size ≤ gb332)); have n11_ := Aside0.mk ((by rw [hg]; exact Nat.ne_of_lt (blk_lt (g := gb318) (o := .cells #[.slice Ao24 t309.length co24, .slice Ao26 t312.length co26, .slice Ao27 t315.length co27] 37 (0, 0)) (by (with_reducible repeat (first | refine blk_drewN ?_ _ | refine blk_drew ?_ | refine blk_alloc ?_ _)); exact BK318.out)) : gb318 ≠ gb332)); have n12_ := Aside0.mk ((by rw [hg]; exact Nat.ne_of_gt (blk_lt (g := gb318) (o := .cells #[.slice Ao24 t309.length co24, .slice Ao26 t312.length co26, .slice Ao27 t315.length co27] 37 (0, 0)) (by (with_reducible repeat (first | refine blk_drewN ?_ _ | refine blk_drew ?_ | refine blk_alloc ?_ _)); exact BK318.out)) : gb332 ≠ gb318)); clear HO_319000; clear HO_319001; clear HO_319002; clear HO325; clear HO328; clear HO331; clear BK318; clear HB; have HO_319000 := n0_; have HO_319001 := n1_; have HO_319002 := n2_; have HO325 := n3_; have HO328 := n4_; have HO331 := n5_; have BK318 := n6_; have HB := n7_; have BK332 := n8_; have GW332 := n9_; have GE332 := n10_; have NB318_332 := n11_; have NB332_318 := n12_; clear n0_ n1_ n2_ n3_ n4_ n5_ n6_ n7_ n8_ n9_ n10_ n11_ n12_; clear hb hbox hg; obtain ⟨Ao38, co38, eo38⟩ := Kd.R_slice HO325.out; subst eo38; have hnb39 := NB332_318.out; have hnc39 := NB318_332.out; have hcz40_0 : w37.cell? ⟨gb332, 0, none⟩ = some (.slice none 0 0) := (blk_cell BK332.out 0).trans rfl; have hcz40_1 : w37.cell? ⟨gb332, 1, none⟩ = some (.slice none 0 0) := (blk_cell BK332.out 1).trans rfl; have hcz40_2 : w37.cell? ⟨gb332, 2, none⟩ = some (.slice none 0 0) := (blk_cell BK332.out 2).trans rfl; have hfz40_0 := blk_frozen BK332.out 0; have hfz40_1 := blk_frozen BK332.out 1; have hfz40_2 := blk_frozen BK332.out 2; obtain ⟨Ao41, co41, eo41⟩ := Kd.R_slice HO328.out; subst eo41; obtain ⟨Ao42, co42, eo42⟩ := Kd.R_slice HO331.out; subst eo42)))
                  (try simp only [Act.put, List.setIfInBounds_toArray, List.set_cons_zero, List.set_cons_succ])
                  go_cut [61] (fun v61 wc => ∃ (kq : Nat) (x61_33 : Bool), v61 = .bool x61_33 ∧ Aside0 (seneschallaw17_PastNeeds.j1 kq x61_33 t309 t312 t315 t323 t326 t329 = some r) ∧ Aside0 (kq ≤ kj18) ∧ Aside0 (Kd.R k43 43 wc w.heap.size (fun k_ => some k_ ≠ ((.slice Ao38 t323.length co38) : Value).ownBlock) (.slice Ao24 t309.length co24) t309) ∧ Aside0 (Kd.R k24 24 wc w.heap.size (fun k_ => some k_ ≠ ((.slice Ao41 t326.length co41) : Value).ownBlock) (.slice Ao26 t312.length co26) t312) ∧ Aside0 (Kd.R k45 45 wc w.heap.size (fun k_ => some k_ ≠ ((.slice Ao42 t329.length co42) : Value).ownBlock) (.slice Ao27 t315.length co27) t315) ∧ Aside0 (Kd.R k43 43 wc w.heap.size (fun k_ => some k_ ≠ ((.slice Ao24 t309.length co24) : Value).ownBlock) (.slice Ao38 t323.length co38) t323) ∧ Aside0 (Kd.R k24 24 wc w.heap.size (fun k_ => some k_ ≠ ((.slice Ao26 t312.length co26) : Value).ownBlock) (.slice Ao41 t326.length co41) t326) ∧ Aside0 (Kd.R k45 45 wc w.heap.size (fun k_ => some k_ ≠ ((.slice Ao27 t315.length co27) : Value).ownBlock) (.slice Ao42 t329.length co42) t329) ∧ Aside0 (wc.heap[gb318]? = some (.cells #[(.slice Ao24 t309.length co24), (.slice Ao26 t312.length co26), (.slice Ao27 t315.length co27)] 37 (0, 0))) ∧ Aside0 (wc.heap[gb332]? = some (.cells #[(.slice Ao38 t323.length co38), (.slice Ao41 t326.length co41), (.slice Ao42 t329.length co42)] 37 (0, 0))) ∧ Aside0 (Below w.heap.size w wc))
                  case first =>
                    have H := HC34.out
                    clear HC34
                    by_cases c43 : (t309.length : Int) = 0
                    · rw [if_pos c43] at H
                      have c43b0 : ((t309.length : Int) == 0) = true := beq_iff_eq.mpr c43
                      have c43b1 : ((t309.length : Int) != 0) = false := bne_eq_false_iff_eq.mpr c43
                      clear c43
                      (first | rw [c43b0] | (simp only [i64_w, i32_w]; rw [c43b0]) | skip)
                      have H' := Aside0.mk H
                      clear H
                      have hnb44 := NB318_332.out
                      have hnc44 := NB332_318.out
                      have hcz45_0 : w37.cell? ⟨gb318, 0, none⟩ = some (.slice Ao24 t309.length co24) := (blk_cell BK318.out 0).trans rfl
                      have hcz45_1 : w37.cell? ⟨gb318, 1, none⟩ = some (.slice Ao26 t312.length co26) := (blk_cell BK318.out 1).trans rfl
                      have hcz45_2 : w37.cell? ⟨gb318, 2, none⟩ = some (.slice Ao27 t315.length co27) := (blk_cell BK318.out 2).trans rfl
                      have hfz45_0 := blk_frozen BK318.out 0
                      have hfz45_1 := blk_frozen BK318.out 1
                      have hfz45_2 := blk_frozen BK318.out 2
                      go_wp2
                      repeat (go_quiet (fail); try go_wp2)
                      go_meet
                      case rel => exact ⟨_, (true), (by first | rfl | (simp; done) | (simp [*]; done)), H', ⟨by have := HJ18.out; first | omega | exact Nat.le_refl _⟩, ⟨by (with_reducible repeat (first | apply Kd.R_alloc | apply Kd.R_drewN | apply Kd.R_drew)); exact Kd.R_mono (Kd.R_far (p := ⟨gb332, 2, none⟩) (Kd.R_far (p := ⟨gb332, 1, none⟩) (Kd.R_far (p := ⟨gb332, 0, none⟩) (Kd.R_types HO_319000.out BK332.out (by decide)) (fun _ hk => hk.2) (.slice Ao38 t323.length co38)) (fun _ hk => hk.2) (.slice Ao41 t326.length co41)) (fun _ hk => hk.2) (.slice Ao42 t329.length co42)) (fun _ hk => hk.1.2)⟩, ⟨by (with_reducible repeat (first | apply Kd.R_alloc | apply Kd.R_drewN | apply Kd.R_drew)); exact Kd.R_mono (Kd.R_far (p := ⟨gb332, 2, none⟩) (Kd.R_far (p := ⟨gb332, 1, none⟩) (Kd.R_far (p := ⟨gb332, 0, none⟩) (Kd.R_types HO_319001.out BK332.out (by decide)) (fun _ hk => hk.2) (.slice Ao38 t323.length co38)) (fun _ hk => hk.2) (.slice Ao41 t326.length co41)) (fun _ hk => hk.2) (.slice Ao42 t329.length co42)) (fun _ hk => hk.1.2)⟩, ⟨by (with_reducible repeat (first | apply Kd.R_alloc | apply Kd.R_drewN | apply Kd.R_drew)); exact Kd.R_mono (Kd.R_far (p := ⟨gb332, 2, none⟩) (Kd.R_far (p := ⟨gb332, 1, none⟩) (Kd.R_far (p := ⟨gb332, 0, none⟩) (Kd.R_types HO_319002.out BK332.out (by decide)) (fun _ hk => hk.2) (.slice Ao38 t323.length co38)) (fun _ hk => hk.2) (.slice Ao41 t326.length co41)) (fun _ hk => hk.2) (.slice Ao42 t329.length co42)) (fun _ hk => hk.1.2)⟩, ⟨by (with_reducible repeat (first | apply Kd.R_alloc | apply Kd.R_drewN | apply Kd.R_drew)); exact Kd.R_mono (Kd.R_far (p := ⟨gb332, 2, none⟩) (Kd.R_far (p := ⟨gb332, 1, none⟩) (Kd.R_far (p := ⟨gb332, 0, none⟩) (Kd.R_types HO325.out BK332.out (by decide)) (fun _ hk => hk.2) (.slice Ao38 t323.length co38)) (fun _ hk => hk.2) (.slice Ao41 t326.length co41)) (fun _ hk => hk.2) (.slice Ao42 t329.length co42)) (fun _ hk => hk.1.2)⟩, ⟨by (with_reducible repeat (first | apply Kd.R_alloc | apply Kd.R_drewN | apply Kd.R_drew)); exact Kd.R_mono (Kd.R_far (p := ⟨gb332, 2, none⟩) (Kd.R_far (p := ⟨gb332, 1, none⟩) (Kd.R_far (p := ⟨gb332, 0, none⟩) (Kd.R_types HO328.out BK332.out (by decide)) (fun _ hk => hk.2) (.slice Ao38 t323.length co38)) (fun _ hk => hk.2) (.slice Ao41 t326.length co41)) (fun _ hk => hk.2) (.slice Ao42 t329.length co42)) (fun _ hk => hk.1.2)⟩, ⟨by (with_reducible repeat (first | apply Kd.R_alloc | apply Kd.R_drewN | apply Kd.R_drew)); exact Kd.R_mono (Kd.R_far (p := ⟨gb332, 2, none⟩) (Kd.R_far (p := ⟨gb332, 1, none⟩) (Kd.R_far (p := ⟨gb332, 0, none⟩) (Kd.R_types HO331.out BK332.out (by decide)) (fun _ hk => hk.2) (.slice Ao38 t323.length co38)) (fun _ hk => hk.2) (.slice Ao41 t326.length co41)) (fun _ hk => hk.2) (.slice Ao42 t329.length co42)) (fun _ hk => hk.1.2)⟩, ⟨by (with_reducible repeat (first | refine blk_drewN ?_ _ | refine blk_drew ?_ | refine blk_alloc ?_ _)); refine blk_far ?_ NB318_332.out _; (with_reducible repeat (first | refine blk_drewN ?_ _ | refine blk_drew ?_ | refine blk_alloc ?_ _)); refine blk_far ?_ NB318_332.out _; (with_reducible repeat (first | refine blk_drewN ?_ _ | refine blk_drew ?_ | refine blk_alloc ?_ _)); refine blk_far ?_ NB318_332.out _; (with_reducible repeat (first | refine blk_drewN ?_ _ | refine blk_drew ?_ | refine blk_alloc ?_ _)); exact BK318.out⟩, ⟨by (with_reducible repeat (first | refine blk_drewN ?_ _ | refine blk_drew ?_ | refine blk_alloc ?_ _)); refine blk_put (cs := #[.slice Ao38 t323.length co38, .slice Ao41 t326.length co41, .slice none 0 0]) ?_ 2 _ rfl; (with_reducible repeat (first | refine blk_drewN ?_ _ | refine blk_drew ?_ | refine blk_alloc ?_ _)); refine blk_put (cs := #[.slice Ao38 t323.length co38, .slice none 0 0, .slice none 0 0]) ?_ 1 _ rfl; (with_reducible repeat (first | refine blk_drewN ?_ _ | refine blk_drew ?_ | refine blk_alloc ?_ _)); refine blk_put (cs := #[.slice none 0 0, .slice none 0 0, .slice none 0 0]) ?_ 0 _ rfl; (with_reducible repeat (first | refine blk_drewN ?_ _ | refine blk_drew ?_ | refine blk_alloc ?_ _)); exact BK332.out⟩, ⟨by repeat (first | (with_reducible first | exact HB.out | apply below_alloc | apply pw_below_drewN | apply below_drew1 | refine below_set ?_ GE318.out | refine below_set ?_ GE332.out) | exact HB.out)⟩⟩
                    · rw [if_neg c43] at H
                      have c43b0 : ((t309.length : Int) == 0) = false := beq_eq_false_iff_ne.mpr c43
                      have c43b1 : ((t309.length : Int) != 0) = true := bne_iff_ne.mpr c43
                      have c43b2 : ¬ (t309 = []) := fun h_ => c43 (by rw [h_]; rfl)
                      (first | rw [c43b0] | (simp only [i64_w, i32_w]; rw [c43b0]) | skip)
                      have H' := Aside0.mk H
                      clear H
                      have hnb46 := NB318_332.out
                      have hnc46 := NB332_318.out
                      have hcz47_0 : w37.cell? ⟨gb318, 0, none⟩ = some (.slice Ao24 t309.length co24) := (blk_cell BK318.out 0).trans rfl
                      have hcz47_1 : w37.cell? ⟨gb318, 1, none⟩ = some (.slice Ao26 t312.length co26) := (blk_cell BK318.out 1).trans rfl
                      have hcz47_2 : w37.cell? ⟨gb318, 2, none⟩ = some (.slice Ao27 t315.length co27) := (blk_cell BK318.out 2).trans rfl
                      have hfz47_0 := blk_frozen BK318.out 0
                      have hfz47_1 := blk_frozen BK318.out 1
                      have hfz47_2 := blk_frozen BK318.out 2
                      have hcz48_0 : w37.cell? ⟨gb332, 0, none⟩ = some (.slice none 0 0) := (blk_cell BK332.out 0).trans rfl
                      have hcz48_1 : w37.cell? ⟨gb332, 1, none⟩ = some (.slice none 0 0) := (blk_cell BK332.out 1).trans rfl
                      have hcz48_2 : w37.cell? ⟨gb332, 2, none⟩ = some (.slice none 0 0) := (blk_cell BK332.out 2).trans rfl
                      have hfz48_0 := blk_frozen BK332.out 0
                      have hfz48_1 := blk_frozen BK332.out 1
                      have hfz48_2 := blk_frozen BK332.out 2
                      go_wp2
                      repeat (go_quiet (fail); try go_wp2)
                      go_meet
                      case rel => exact ⟨_, (decide ((t323.length : Int) < (t309.length : Int))), (by first | rfl | (simp; done) | (simp [*]; done)), H', ⟨by have := HJ18.out; first | omega | exact Nat.le_refl _⟩, ⟨by (with_reducible repeat (first | apply Kd.R_alloc | apply Kd.R_drewN | apply Kd.R_drew)); exact Kd.R_mono (Kd.R_far (p := ⟨gb332, 2, none⟩) (Kd.R_far (p := ⟨gb332, 1, none⟩) (Kd.R_far (p := ⟨gb332, 0, none⟩) (Kd.R_types HO_319000.out BK332.out (by decide)) (fun _ hk => hk.2) (.slice Ao38 t323.length co38)) (fun _ hk => hk.2) (.slice Ao41 t326.length co41)) (fun _ hk => hk.2) (.slice Ao42 t329.length co42)) (fun _ hk => hk.1.2)⟩, ⟨by (with_reducible repeat (first | apply Kd.R_alloc | apply Kd.R_drewN | apply Kd.R_drew)); exact Kd.R_mono (Kd.R_far (p := ⟨gb332, 2, none⟩) (Kd.R_far (p := ⟨gb332, 1, none⟩) (Kd.R_far (p := ⟨gb332, 0, none⟩) (Kd.R_types HO_319001.out BK332.out (by decide)) (fun _ hk => hk.2) (.slice Ao38 t323.length co38)) (fun _ hk => hk.2) (.slice Ao41 t326.length co41)) (fun _ hk => hk.2) (.slice Ao42 t329.length co42)) (fun _ hk => hk.1.2)⟩, ⟨by (with_reducible repeat (first | apply Kd.R_alloc | apply Kd.R_drewN | apply Kd.R_drew)); exact Kd.R_mono (Kd.R_far (p := ⟨gb332, 2, none⟩) (Kd.R_far (p := ⟨gb332, 1, none⟩) (Kd.R_far (p := ⟨gb332, 0, none⟩) (Kd.R_types HO_319002.out BK332.out (by decide)) (fun _ hk => hk.2) (.slice Ao38 t323.length co38)) (fun _ hk => hk.2) (.slice Ao41 t326.length co41)) (fun _ hk => hk.2) (.slice Ao42 t329.length co42)) (fun _ hk => hk.1.2)⟩, ⟨by (with_reducible repeat (first | apply Kd.R_alloc | apply Kd.R_drewN | apply Kd.R_drew)); exact Kd.R_mono (Kd.R_far (p := ⟨gb332, 2, none⟩) (Kd.R_far (p := ⟨gb332, 1, none⟩) (Kd.R_far (p := ⟨gb332, 0, none⟩) (Kd.R_types HO325.out BK332.out (by decide)) (fun _ hk => hk.2) (.slice Ao38 t323.length co38)) (fun _ hk => hk.2) (.slice Ao41 t326.length co41)) (fun _ hk => hk.2) (.slice Ao42 t329.length co42)) (fun _ hk => hk.1.2)⟩, ⟨by (with_reducible repeat (first | apply Kd.R_alloc | apply Kd.R_drewN | apply Kd.R_drew)); exact Kd.R_mono (Kd.R_far (p := ⟨gb332, 2, none⟩) (Kd.R_far (p := ⟨gb332, 1, none⟩) (Kd.R_far (p := ⟨gb332, 0, none⟩) (Kd.R_types HO328.out BK332.out (by decide)) (fun _ hk => hk.2) (.slice Ao38 t323.length co38)) (fun _ hk => hk.2) (.slice Ao41 t326.length co41)) (fun _ hk => hk.2) (.slice Ao42 t329.length co42)) (fun _ hk => hk.1.2)⟩, ⟨by (with_reducible repeat (first | apply Kd.R_alloc | apply Kd.R_drewN | apply Kd.R_drew)); exact Kd.R_mono (Kd.R_far (p := ⟨gb332, 2, none⟩) (Kd.R_far (p := ⟨gb332, 1, none⟩) (Kd.R_far (p := ⟨gb332, 0, none⟩) (Kd.R_types HO331.out BK332.out (by decide)) (fun _ hk => hk.2) (.slice Ao38 t323.length co38)) (fun _ hk => hk.2) (.slice Ao41 t326.length co41)) (fun _ hk => hk.2) (.slice Ao42 t329.length co42)) (fun _ hk => hk.1.2)⟩, ⟨by (with_reducible repeat (first | refine blk_drewN ?_ _ | refine blk_drew ?_ | refine blk_alloc ?_ _)); refine blk_far ?_ NB318_332.out _; (with_reducible repeat (first | refine blk_drewN ?_ _ | refine blk_drew ?_ | refine blk_alloc ?_ _)); refine blk_far ?_ NB318_332.out _; (with_reducible repeat (first | refine blk_drewN ?_ _ | refine blk_drew ?_ | refine blk_alloc ?_ _)); refine blk_far ?_ NB318_332.out _; (with_reducible repeat (first | refine blk_drewN ?_ _ | refine blk_drew ?_ | refine blk_alloc ?_ _)); exact BK318.out⟩, ⟨by (with_reducible repeat (first | refine blk_drewN ?_ _ | refine blk_drew ?_ | refine blk_alloc ?_ _)); refine blk_put (cs := #[.slice Ao38 t323.length co38, .slice Ao41 t326.length co41, .slice none 0 0]) ?_ 2 _ rfl; (with_reducible repeat (first | refine blk_drewN ?_ _ | refine blk_drew ?_ | refine blk_alloc ?_ _)); refine blk_put (cs := #[.slice Ao38 t323.length co38, .slice none 0 0, .slice none 0 0]) ?_ 1 _ rfl; (with_reducible repeat (first | refine blk_drewN ?_ _ | refine blk_drew ?_ | refine blk_alloc ?_ _)); refine blk_put (cs := #[.slice none 0 0, .slice none 0 0, .slice none 0 0]) ?_ 0 _ rfl; (with_reducible repeat (first | refine blk_drewN ?_ _ | refine blk_drew ?_ | refine blk_alloc ?_ _)); exact BK332.out⟩, ⟨by repeat (first | (with_reducible first | exact HB.out | apply below_alloc | apply pw_below_drewN | apply below_drew1 | refine below_set ?_ GE318.out | refine below_set ?_ GE332.out) | exact HB.out)⟩⟩
                  case rest =>
                    clear HC34
                    try clear c1
                    try clear c2
                    try clear p2
                    try clear c3
                    try clear q3
                    try clear c4
                    try clear c5
                    try clear c6
                    try clear p6
                    try clear c10
                    try clear c10b0
                    try clear c10b1
                    try clear c28
                    try clear c28b0
                    try clear c29
                    try clear c31
                    try clear c31b0
                    try clear c31b1
                    try clear c32
                    try clear c32b0
                    try clear c32b1
                    try clear c35
                    try clear q35
                    try clear c39
                    try clear c43
                    try clear c43b0
                    try clear c43b1
                    try clear c43b2
                    try clear c44
                    try clear c46
                    try clear hcz16_0
                    try clear hcz16_1
                    try clear hcz16_2
                    try clear hcz25_0
                    try clear hcz25_1
                    try clear hcz25_2
                    try clear hcz40_0
                    try clear hcz40_1
                    try clear hcz40_2
                    try clear hcz45_0
                    try clear hcz45_1
                    try clear hcz45_2
                    try clear hcz47_0
                    try clear hcz47_1
                    try clear hcz47_2
                    try clear hcz48_0
                    try clear hcz48_1
                    try clear hcz48_2
                    try clear hfz16_0
                    try clear hfz16_1
                    try clear hfz16_2
                    try clear hfz25_0
                    try clear hfz25_1
                    try clear hfz25_2
                    try clear hfz40_0
                    try clear hfz40_1
                    try clear hfz40_2
                    try clear hfz45_0
                    try clear hfz45_1
                    try clear hfz45_2
                    try clear hfz47_0
                    try clear hfz47_1
                    try clear hfz47_2
                    try clear hfz48_0
                    try clear hfz48_1
                    try clear hfz48_2
                    try clear p2
                    try clear p6
                    try clear q035
                    try clear q35
                    obtain ⟨kq, x61_33, rfl, HA, HJ33, HO_319000, HO_319001, HO_319002, HO_333000, HO_333001, HO_333002, BK318, BK332, HB⟩ := hcut
                    cases kq with
                    | zero => exact absurd HA.out (by simp [seneschallaw17_PastNeeds.j1])
                    | succ kj33 =>
                      have H := HA.out
                      clear HA
                      simp only [seneschallaw17_PastNeeds.j1] at H
                      by_cases c49 : x61_33 = true
                      · subst c49
                        have H1 : (some false) = some r := by rw [if_pos rfl] at H; exact H
                        clear H
                        have H := H1
                        clear H1
                        obtain rfl := Option.some.inj H
                        go_wp2
                        repeat (go_quiet (fail); try go_wp2)
                        go_ret
                        exact ⟨by first | rfl | (simp [errW_none, errW_some] <;> rfl) | (simp only [← hji30]; first | rfl | (simp [errW_none, errW_some] <;> rfl)) | (simp [*, errW_none, errW_some] <;> rfl), by repeat (first | (with_reducible first | exact HB.out | apply below_alloc | apply pw_below_drewN | apply below_drew1 | refine below_set ?_ GE318.out | refine below_set ?_ GE332.out) | exact HB.out)⟩
                      · replace c49 := Bool.eq_false_iff.mpr c49
                        subst c49
                        have H1 : (seneschallaw17_PastNeeds.l0 kj33 0 0 t309 t312 t315 t323 t326 t329) = some r := by rw [if_neg (show ¬ (false = true) by decide)] at H; exact H
                        clear H
                        have H := H1
                        clear H1
                        have H' := Aside0.mk H
                        clear H
                        go_wp2
                        repeat (go_quiet (fail); try go_wp2)
                        go_loopg [8, 9] kj33 (fun kq v8 v9 w' => ∃ (x8_3 : Int) (x9_3 : Int), v8 = .int .i64 x8_3 ∧ v9 = .int .i64 x9_3 ∧ Aside0 (seneschallaw17_PastNeeds.l0 kq x8_3 x9_3 t309 t312 t315 t323 t326 t329 = some r) ∧ Aside0 (kq ≤ kj33) ∧ Aside0 (Kd.R k43 43 w' w.heap.size (fun k_ => some k_ ≠ ((.slice Ao38 t323.length co38) : Value).ownBlock) (.slice Ao24 t309.length co24) t309) ∧ Aside0 (Kd.R k24 24 w' w.heap.size (fun k_ => some k_ ≠ ((.slice Ao41 t326.length co41) : Value).ownBlock) (.slice Ao26 t312.length co26) t312) ∧ Aside0 (Kd.R k45 45 w' w.heap.size (fun k_ => some k_ ≠ ((.slice Ao42 t329.length co42) : Value).ownBlock) (.slice Ao27 t315.length co27) t315) ∧ Aside0 (Kd.R k43 43 w' w.heap.size (fun k_ => some k_ ≠ ((.slice Ao24 t309.length co24) : Value).ownBlock) (.slice Ao38 t323.length co38) t323) ∧ Aside0 (Kd.R k24 24 w' w.heap.size (fun k_ => some k_ ≠ ((.slice Ao26 t312.length co26) : Value).ownBlock) (.slice Ao41 t326.length co41) t326) ∧ Aside0 (Kd.R k45 45 w' w.heap.size (fun k_ => some k_ ≠ ((.slice Ao27 t315.length co27) : Value).ownBlock) (.slice Ao42 t329.length co42) t329) ∧ Aside0 (w'.heap[gb318]? = some (.cells #[(.slice Ao24 t309.length co24), (.slice Ao26 t312.length co26), (.slice Ao27 t315.length co27)] 37 (0, 0))) ∧ Aside0 (w'.heap[gb332]? = some (.cells #[(.slice Ao38 t323.length co38), (.slice Ao41 t326.length co41), (.slice Ao42 t329.length co42)] 37 (0, 0))) ∧ Aside0 (Below w.heap.size w w'))
                        case atStart => exact ⟨(0), (0), (by first | rfl | (simp; done) | (simp [*]; done)), (by first | rfl | (simp; done) | (simp [*]; done)), H', ⟨Nat.le_refl _⟩, ⟨by (with_reducible repeat (first | apply Kd.R_alloc | apply Kd.R_drewN | apply Kd.R_drew)); exact HO_319000.out⟩, ⟨by (with_reducible repeat (first | apply Kd.R_alloc | apply Kd.R_drewN | apply Kd.R_drew)); exact HO_319001.out⟩, ⟨by (with_reducible repeat (first | apply Kd.R_alloc | apply Kd.R_drewN | apply Kd.R_drew)); exact HO_319002.out⟩, ⟨by (with_reducible repeat (first | apply Kd.R_alloc | apply Kd.R_drewN | apply Kd.R_drew)); exact HO_333000.out⟩, ⟨by (with_reducible repeat (first | apply Kd.R_alloc | apply Kd.R_drewN | apply Kd.R_drew)); exact HO_333001.out⟩, ⟨by (with_reducible repeat (first | apply Kd.R_alloc | apply Kd.R_drewN | apply Kd.R_drew)); exact HO_333002.out⟩, ⟨by (with_reducible repeat (first | refine blk_drewN ?_ _ | refine blk_drew ?_ | refine blk_alloc ?_ _)); exact BK318.out⟩, ⟨by (with_reducible repeat (first | refine blk_drewN ?_ _ | refine blk_drew ?_ | refine blk_alloc ?_ _)); exact BK332.out⟩, ⟨by repeat (first | (with_reducible first | exact HB.out | apply below_alloc | apply pw_below_drewN | apply below_drew1 | refine below_set ?_ GE318.out | refine below_set ?_ GE332.out) | exact HB.out)⟩⟩
                        case round =>
                          clear H'
                          try clear c1
                          try clear c2
                          try clear p2
                          try clear c3
                          try clear q3
                          try clear c4
                          try clear c5
                          try clear c6
                          try clear p6
                          try clear c10
                          try clear c10b0
                          try clear c10b1
                          try clear c28
                          try clear c28b0
                          try clear c29
                          try clear c31
                          try clear c31b0
                          try clear c31b1
                          try clear c32
                          try clear c32b0
                          try clear c32b1
                          try clear c35
                          try clear q35
                          try clear c39
                          try clear c43
                          try clear c43b0
                          try clear c43b1
                          try clear c43b2
                          try clear c44
                          try clear c46
                          try clear c49
                          try clear hcz16_0
                          try clear hcz16_1
                          try clear hcz16_2
                          try clear hcz25_0
                          try clear hcz25_1
                          try clear hcz25_2
                          try clear hcz40_0
                          try clear hcz40_1
                          try clear hcz40_2
                          try clear hcz45_0
                          try clear hcz45_1
                          try clear hcz45_2
                          try clear hcz47_0
                          try clear hcz47_1
                          try clear hcz47_2
                          try clear hcz48_0
                          try clear hcz48_1
                          try clear hcz48_2
                          try clear hfz16_0
                          try clear hfz16_1
                          try clear hfz16_2
                          try clear hfz25_0
                          try clear hfz25_1
                          try clear hfz25_2
                          try clear hfz40_0
                          try clear hfz40_1
                          try clear hfz40_2
                          try clear hfz45_0
                          try clear hfz45_1
                          try clear hfz45_2
                          try clear hfz47_0
                          try clear hfz47_1
                          try clear hfz47_2
                          try clear hfz48_0
                          try clear hfz48_1
                          try clear hfz48_2
                          try clear p2
                          try clear p6
                          try clear q035
                          try clear q3
                          try clear q35
                          obtain ⟨x8_3, x9_3, rfl, rfl, HA, HK3, HO_319000, HO_319001, HO_319002, HO_333000, HO_333001, HO_333002, BK318, BK332, HB⟩ := hrel
                          cases gk with
                          | zero => exact absurd HA.out (by simp [seneschallaw17_PastNeeds.l0])
                          | succ k3 =>
                            have H := HA.out
                            clear HA
                            simp only [seneschallaw17_PastNeeds.l0] at H
                            have HC50 := Aside0.mk H
                            clear H
                            go_upto_region 17 with (fail)
                            repeat (go_quiet (fail); go_upto_region 17 with (fail))
                            go_cut [73] (fun v73 wc => ∃ (kq : Nat) (x73_49 : Bool), v73 = .bool x73_49 ∧ Aside0 (seneschallaw17_PastNeeds.j3 kq x8_3 x9_3 x73_49 t309 t312 t315 t323 t326 t329 = some r) ∧ Aside0 (kq ≤ k3) ∧ Aside0 (Kd.R k43 43 wc w.heap.size (fun k_ => some k_ ≠ ((.slice Ao38 t323.length co38) : Value).ownBlock) (.slice Ao24 t309.length co24) t309) ∧ Aside0 (Kd.R k24 24 wc w.heap.size (fun k_ => some k_ ≠ ((.slice Ao41 t326.length co41) : Value).ownBlock) (.slice Ao26 t312.length co26) t312) ∧ Aside0 (Kd.R k45 45 wc w.heap.size (fun k_ => some k_ ≠ ((.slice Ao42 t329.length co42) : Value).ownBlock) (.slice Ao27 t315.length co27) t315) ∧ Aside0 (Kd.R k43 43 wc w.heap.size (fun k_ => some k_ ≠ ((.slice Ao24 t309.length co24) : Value).ownBlock) (.slice Ao38 t323.length co38) t323) ∧ Aside0 (Kd.R k24 24 wc w.heap.size (fun k_ => some k_ ≠ ((.slice Ao26 t312.length co26) : Value).ownBlock) (.slice Ao41 t326.length co41) t326) ∧ Aside0 (Kd.R k45 45 wc w.heap.size (fun k_ => some k_ ≠ ((.slice Ao27 t315.length co27) : Value).ownBlock) (.slice Ao42 t329.length co42) t329) ∧ Aside0 (wc.heap[gb318]? = some (.cells #[(.slice Ao24 t309.length co24), (.slice Ao26 t312.length co26), (.slice Ao27 t315.length co27)] 37 (0, 0))) ∧ Aside0 (wc.heap[gb332]? = some (.cells #[(.slice Ao38 t323.length co38), (.slice Ao41 t326.length co41), (.slice Ao42 t329.length co42)] 37 (0, 0))) ∧ Aside0 (Below w.heap.size w wc))
                            case first =>
                              have H := HC50.out
                              clear HC50
                              by_cases c51 : x9_3 < (t323.length : Int)
                              · rw [if_pos c51] at H
                                have c51b0 : decide (x9_3 < (t323.length : Int)) = true := decide_eq_true c51
                                clear c51
                                (first | rw [c51b0] | (simp only [i64_w, i32_w]; rw [c51b0]) | skip)
                                have H' := Aside0.mk H
                                clear H
                                have hnb52 := NB332_318.out
                                have hnc52 := NB318_332.out
                                have hcz53_0 : wr.cell? ⟨gb332, 0, none⟩ = some (.slice Ao38 t323.length co38) := (blk_cell BK332.out 0).trans rfl
                                have hcz53_1 : wr.cell? ⟨gb332, 1, none⟩ = some (.slice Ao41 t326.length co41) := (blk_cell BK332.out 1).trans rfl
                                have hcz53_2 : wr.cell? ⟨gb332, 2, none⟩ = some (.slice Ao42 t329.length co42) := (blk_cell BK332.out 2).trans rfl
                                have hfz53_0 := blk_frozen BK332.out 0
                                have hfz53_1 := blk_frozen BK332.out 1
                                have hfz53_2 := blk_frozen BK332.out 2
                                have hcz54_0 : wr.cell? ⟨gb318, 0, none⟩ = some (.slice Ao24 t309.length co24) := (blk_cell BK318.out 0).trans rfl
                                have hcz54_1 : wr.cell? ⟨gb318, 1, none⟩ = some (.slice Ao26 t312.length co26) := (blk_cell BK318.out 1).trans rfl
                                have hcz54_2 : wr.cell? ⟨gb318, 2, none⟩ = some (.slice Ao27 t315.length co27) := (blk_cell BK318.out 2).trans rfl
                                have hfz54_0 := blk_frozen BK318.out 0
                                have hfz54_1 := blk_frozen BK318.out 1
                                have hfz54_2 := blk_frozen BK318.out 2
                                go_wp2
                                repeat (go_quiet (fail); try go_wp2)
                                go_meet
                                case rel => exact ⟨_, (decide (x8_3 < (t309.length : Int))), (by first | rfl | (simp; done) | (simp [*]; done)), H', ⟨by have := HJ18.out; have := HJ33.out; have := HK3.out; first | omega | exact Nat.le_refl _⟩, ⟨by (with_reducible repeat (first | apply Kd.R_alloc | apply Kd.R_drewN | apply Kd.R_drew)); exact HO_319000.out⟩, ⟨by (with_reducible repeat (first | apply Kd.R_alloc | apply Kd.R_drewN | apply Kd.R_drew)); exact HO_319001.out⟩, ⟨by (with_reducible repeat (first | apply Kd.R_alloc | apply Kd.R_drewN | apply Kd.R_drew)); exact HO_319002.out⟩, ⟨by (with_reducible repeat (first | apply Kd.R_alloc | apply Kd.R_drewN | apply Kd.R_drew)); exact HO_333000.out⟩, ⟨by (with_reducible repeat (first | apply Kd.R_alloc | apply Kd.R_drewN | apply Kd.R_drew)); exact HO_333001.out⟩, ⟨by (with_reducible repeat (first | apply Kd.R_alloc | apply Kd.R_drewN | apply Kd.R_drew)); exact HO_333002.out⟩, ⟨by (with_reducible repeat (first | refine blk_drewN ?_ _ | refine blk_drew ?_ | refine blk_alloc ?_ _)); exact BK318.out⟩, ⟨by (with_reducible repeat (first | refine blk_drewN ?_ _ | refine blk_drew ?_ | refine blk_alloc ?_ _)); exact BK332.out⟩, ⟨by repeat (first | (with_reducible first | exact HB.out | apply below_alloc | apply pw_below_drewN | apply below_drew1 | refine below_set ?_ GE318.out | refine below_set ?_ GE332.out) | exact HB.out)⟩⟩
                              · rw [if_neg c51] at H
                                have c51b0 : decide (x9_3 < (t323.length : Int)) = false := decide_eq_false c51
                                clear c51
                                (first | rw [c51b0] | (simp only [i64_w, i32_w]; rw [c51b0]) | skip)
                                have H' := Aside0.mk H
                                clear H
                                have hnb55 := NB332_318.out
                                have hnc55 := NB318_332.out
                                have hcz56_0 : wr.cell? ⟨gb332, 0, none⟩ = some (.slice Ao38 t323.length co38) := (blk_cell BK332.out 0).trans rfl
                                have hcz56_1 : wr.cell? ⟨gb332, 1, none⟩ = some (.slice Ao41 t326.length co41) := (blk_cell BK332.out 1).trans rfl
                                have hcz56_2 : wr.cell? ⟨gb332, 2, none⟩ = some (.slice Ao42 t329.length co42) := (blk_cell BK332.out 2).trans rfl
                                have hfz56_0 := blk_frozen BK332.out 0
                                have hfz56_1 := blk_frozen BK332.out 1
                                have hfz56_2 := blk_frozen BK332.out 2
                                go_wp2
                                repeat (go_quiet (fail); try go_wp2)
                                go_meet
                                case rel => exact ⟨_, (false), (by first | rfl | (simp; done) | (simp [*]; done)), H', ⟨by have := HJ18.out; have := HJ33.out; have := HK3.out; first | omega | exact Nat.le_refl _⟩, ⟨by (with_reducible repeat (first | apply Kd.R_alloc | apply Kd.R_drewN | apply Kd.R_drew)); exact HO_319000.out⟩, ⟨by (with_reducible repeat (first | apply Kd.R_alloc | apply Kd.R_drewN | apply Kd.R_drew)); exact HO_319001.out⟩, ⟨by (with_reducible repeat (first | apply Kd.R_alloc | apply Kd.R_drewN | apply Kd.R_drew)); exact HO_319002.out⟩, ⟨by (with_reducible repeat (first | apply Kd.R_alloc | apply Kd.R_drewN | apply Kd.R_drew)); exact HO_333000.out⟩, ⟨by (with_reducible repeat (first | apply Kd.R_alloc | apply Kd.R_drewN | apply Kd.R_drew)); exact HO_333001.out⟩, ⟨by (with_reducible repeat (first | apply Kd.R_alloc | apply Kd.R_drewN | apply Kd.R_drew)); exact HO_333002.out⟩, ⟨by (with_reducible repeat (first | refine blk_drewN ?_ _ | refine blk_drew ?_ | refine blk_alloc ?_ _)); exact BK318.out⟩, ⟨by (with_reducible repeat (first | refine blk_drewN ?_ _ | refine blk_drew ?_ | refine blk_alloc ?_ _)); exact BK332.out⟩, ⟨by repeat (first | (with_reducible first | exact HB.out | apply below_alloc | apply pw_below_drewN | apply below_drew1 | refine below_set ?_ GE318.out | refine below_set ?_ GE332.out) | exact HB.out)⟩⟩
                            case rest =>
                              clear HC50
                              try clear c1
                              try clear c2
                              try clear p2
                              try clear c3
                              try clear q3
                              try clear c4
                              try clear c5
                              try clear c6
                              try clear p6
                              try clear c10
                              try clear c10b0
                              try clear c10b1
                              try clear c28
                              try clear c28b0
                              try clear c29
                              try clear c31
                              try clear c31b0
                              try clear c31b1
                              try clear c32
                              try clear c32b0
                              try clear c32b1
                              try clear c35
                              try clear q35
                              try clear c39
                              try clear c43
                              try clear c43b0
                              try clear c43b1
                              try clear c43b2
                              try clear c44
                              try clear c46
                              try clear c49
                              try clear c51
                              try clear c51b0
                              try clear c52
                              try clear c55
                              try clear hcz16_0
                              try clear hcz16_1
                              try clear hcz16_2
                              try clear hcz25_0
                              try clear hcz25_1
                              try clear hcz25_2
                              try clear hcz40_0
                              try clear hcz40_1
                              try clear hcz40_2
                              try clear hcz45_0
                              try clear hcz45_1
                              try clear hcz45_2
                              try clear hcz47_0
                              try clear hcz47_1
                              try clear hcz47_2
                              try clear hcz48_0
                              try clear hcz48_1
                              try clear hcz48_2
                              try clear hcz53_0
                              try clear hcz53_1
                              try clear hcz53_2
                              try clear hcz54_0
                              try clear hcz54_1
                              try clear hcz54_2
                              try clear hcz56_0
                              try clear hcz56_1
                              try clear hcz56_2
                              try clear hfz16_0
                              try clear hfz16_1
                              try clear hfz16_2
                              try clear hfz25_0
                              try clear hfz25_1
                              try clear hfz25_2
                              try clear hfz40_0
                              try clear hfz40_1
                              try clear hfz40_2
                              try clear hfz45_0
                              try clear hfz45_1
                              try clear hfz45_2
                              try clear hfz47_0
                              try clear hfz47_1
                              try clear hfz47_2
                              try clear hfz48_0
                              try clear hfz48_1
                              try clear hfz48_2
                              try clear hfz53_0
                              try clear hfz53_1
                              try clear hfz53_2
                              try clear hfz54_0
                              try clear hfz54_1
                              try clear hfz54_2
                              try clear hfz56_0
                              try clear hfz56_1
                              try clear hfz56_2
                              try clear p2
                              try clear p6
                              try clear q035
                              try clear q3
                              try clear q35
                              obtain ⟨kq, x73_49, rfl, HA, HJ49, HO_319000, HO_319001, HO_319002, HO_333000, HO_333001, HO_333002, BK318, BK332, HB⟩ := hcut
                              cases kq with
                              | zero => exact absurd HA.out (by simp [seneschallaw17_PastNeeds.j3])
                              | succ kj49 =>
                                have H := HA.out
                                clear HA
                                simp only [seneschallaw17_PastNeeds.j3] at H
                                by_cases c57 : x73_49 = true
                                · subst c57
                                  have H1 : (if 0 ≤ x9_3 then (if x9_3 < (t323.length : Int) then (if 0 ≤ x8_3 then (if x8_3 < (t309.length : Int) then (if ((((rd_T43 t323 x9_3).f0.f0) == ((rd_T43 t309 x8_3).f0.f0) && (((rd_T43 t323 x9_3).f0.f1) == ((rd_T43 t309 x8_3).f0.f1) && (((rd_T43 t323 x9_3).f0.f2) == ((rd_T43 t309 x8_3).f0.f2)))) && (((rd_T43 t323 x9_3).f1) == ((rd_T43 t309 x8_3).f1))) = true then (seneschallaw17_PastNeeds.l0 kj49 (wrap64 (x8_3 + 1)) (wrap64 (x9_3 + 1)) t309 t312 t315 t323 t326 t329) else (seneschallaw17_PastNeeds.l0 kj49 x8_3 (wrap64 (x9_3 + 1)) t309 t312 t315 t323 t326 t329)) else (none)) else (none)) else (none)) else (none)) = some r := by rw [if_pos rfl] at H; exact H
                                  clear H
                                  have H := H1
                                  clear H1
                                  by_cases c58 : 0 ≤ x9_3
                                  · rw [if_pos c58] at H
                                    have c58b0 : decide (0 ≤ x9_3) = true := decide_eq_true c58
                                    clear c58
                                    by_cases c59 : x9_3 < (t323.length : Int)
                                    · rw [if_pos c59] at H
                                      have c59b0 : decide (x9_3 < (t323.length : Int)) = true := decide_eq_true c59
                                      clear c59
                                      by_cases c60 : 0 ≤ x8_3
                                      · rw [if_pos c60] at H
                                        have c60b0 : decide (0 ≤ x8_3) = true := decide_eq_true c60
                                        clear c60
                                        by_cases c61 : x8_3 < (t309.length : Int)
                                        · rw [if_pos c61] at H
                                          have c61b0 : decide (x8_3 < (t309.length : Int)) = true := decide_eq_true c61
                                          clear c61
                                          by_cases c62 : ((((rd_T43 t323 x9_3).f0.f0) == ((rd_T43 t309 x8_3).f0.f0) && (((rd_T43 t323 x9_3).f0.f1) == ((rd_T43 t309 x8_3).f0.f1) && (((rd_T43 t323 x9_3).f0.f2) == ((rd_T43 t309 x8_3).f0.f2)))) && (((rd_T43 t323 x9_3).f1) == ((rd_T43 t309 x8_3).f1))) = true
                                          · rw [if_pos c62] at H
                                            have c62b0 : ((((rd_T43 t323 x9_3).f0.f0) == ((rd_T43 t309 x8_3).f0.f0) && (((rd_T43 t323 x9_3).f0.f1) == ((rd_T43 t309 x8_3).f0.f1) && (((rd_T43 t323 x9_3).f0.f2) == ((rd_T43 t309 x8_3).f0.f2)))) && (((rd_T43 t323 x9_3).f1) == ((rd_T43 t309 x8_3).f1))) = true := c62
                                            clear c62
                                            have H' := Aside0.mk H
                                            clear H
                                            have hnb63 := NB332_318.out
                                            have hnc63 := NB318_332.out
                                            have hcz64_0 : wc.cell? ⟨gb332, 0, none⟩ = some (.slice Ao38 t323.length co38) := (blk_cell BK332.out 0).trans rfl
                                            have hcz64_1 : wc.cell? ⟨gb332, 1, none⟩ = some (.slice Ao41 t326.length co41) := (blk_cell BK332.out 1).trans rfl
                                            have hcz64_2 : wc.cell? ⟨gb332, 2, none⟩ = some (.slice Ao42 t329.length co42) := (blk_cell BK332.out 2).trans rfl
                                            have hfz64_0 := blk_frozen BK332.out 0
                                            have hfz64_1 := blk_frozen BK332.out 1
                                            have hfz64_2 := blk_frozen BK332.out 2
                                            have p333 : 0 ≤ (x9_3 : Int) := of_decide_eq_true (by first | (with_reducible assumption) | assumption)
                                            have q333 : x9_3 < (t323.length : Int) := of_decide_eq_true (by first | (with_reducible assumption) | assumption)
                                            obtain ⟨ad333, e333, hx333_0, hx333_1, hx333_2, hx333_3⟩ := at_T43 (Kd.R_reads' HO_333000.out).2.2 x9_3 p333 q333
                                            cases e333
                                            replace p333 := eq_true p333
                                            replace q333 := eq_true q333
                                            have hcz65_0 : wc.cell? ⟨gb318, 0, none⟩ = some (.slice Ao24 t309.length co24) := (blk_cell BK318.out 0).trans rfl
                                            have hcz65_1 : wc.cell? ⟨gb318, 1, none⟩ = some (.slice Ao26 t312.length co26) := (blk_cell BK318.out 1).trans rfl
                                            have hcz65_2 : wc.cell? ⟨gb318, 2, none⟩ = some (.slice Ao27 t315.length co27) := (blk_cell BK318.out 2).trans rfl
                                            have hfz65_0 := blk_frozen BK318.out 0
                                            have hfz65_1 := blk_frozen BK318.out 1
                                            have hfz65_2 := blk_frozen BK318.out 2
                                            have p334 : 0 ≤ (x8_3 : Int) := of_decide_eq_true (by first | (with_reducible assumption) | assumption)
                                            have q334 : x8_3 < (t309.length : Int) := of_decide_eq_true (by first | (with_reducible assumption) | assumption)
                                            obtain ⟨ad334, e334, hx334_0, hx334_1, hx334_2, hx334_3⟩ := at_T43 (Kd.R_reads' HO_319000.out).2.2 x8_3 p334 q334
                                            cases e334
                                            replace p334 := eq_true p334
                                            replace q334 := eq_true q334
                                            go_wp2
                                            repeat (go_quiet (fail); try go_wp2)
                                            go_roundg kj49
                                            case measure => have := HJ18.out; have := HJ33.out; have := HK3.out; have := HJ49.out; omega
                                            case rel => exact ⟨(wrap64 (x8_3 + 1)), (wrap64 (x9_3 + 1)), (by first | rfl | (simp; done) | (simp [*]; done)), (by first | rfl | (simp; done) | (simp [*]; done)), H', ⟨by have := HJ18.out; have := HJ33.out; have := HK3.out; have := HJ49.out; omega⟩, ⟨by (with_reducible repeat (first | apply Kd.R_alloc | apply Kd.R_drewN | apply Kd.R_drew)); exact HO_319000.out⟩, ⟨by (with_reducible repeat (first | apply Kd.R_alloc | apply Kd.R_drewN | apply Kd.R_drew)); exact HO_319001.out⟩, ⟨by (with_reducible repeat (first | apply Kd.R_alloc | apply Kd.R_drewN | apply Kd.R_drew)); exact HO_319002.out⟩, ⟨by (with_reducible repeat (first | apply Kd.R_alloc | apply Kd.R_drewN | apply Kd.R_drew)); exact HO_333000.out⟩, ⟨by (with_reducible repeat (first | apply Kd.R_alloc | apply Kd.R_drewN | apply Kd.R_drew)); exact HO_333001.out⟩, ⟨by (with_reducible repeat (first | apply Kd.R_alloc | apply Kd.R_drewN | apply Kd.R_drew)); exact HO_333002.out⟩, ⟨by (with_reducible repeat (first | refine blk_drewN ?_ _ | refine blk_drew ?_ | refine blk_alloc ?_ _)); exact BK318.out⟩, ⟨by (with_reducible repeat (first | refine blk_drewN ?_ _ | refine blk_drew ?_ | refine blk_alloc ?_ _)); exact BK332.out⟩, ⟨by repeat (first | (with_reducible first | exact HB.out | apply below_alloc | apply pw_below_drewN | apply below_drew1 | refine below_set ?_ GE318.out | refine below_set ?_ GE332.out) | exact HB.out)⟩⟩
                                          · rw [if_neg c62] at H
                                            have c62b0 : ((((rd_T43 t323 x9_3).f0.f0) == ((rd_T43 t309 x8_3).f0.f0) && (((rd_T43 t323 x9_3).f0.f1) == ((rd_T43 t309 x8_3).f0.f1) && (((rd_T43 t323 x9_3).f0.f2) == ((rd_T43 t309 x8_3).f0.f2)))) && (((rd_T43 t323 x9_3).f1) == ((rd_T43 t309 x8_3).f1))) = false := by simpa using c62
                                            clear c62
                                            have H' := Aside0.mk H
                                            clear H
                                            have hnb66 := NB332_318.out
                                            have hnc66 := NB318_332.out
                                            have hcz67_0 : wc.cell? ⟨gb332, 0, none⟩ = some (.slice Ao38 t323.length co38) := (blk_cell BK332.out 0).trans rfl
                                            have hcz67_1 : wc.cell? ⟨gb332, 1, none⟩ = some (.slice Ao41 t326.length co41) := (blk_cell BK332.out 1).trans rfl
                                            have hcz67_2 : wc.cell? ⟨gb332, 2, none⟩ = some (.slice Ao42 t329.length co42) := (blk_cell BK332.out 2).trans rfl
                                            have hfz67_0 := blk_frozen BK332.out 0
                                            have hfz67_1 := blk_frozen BK332.out 1
                                            have hfz67_2 := blk_frozen BK332.out 2
                                            have p333 : 0 ≤ (x9_3 : Int) := of_decide_eq_true (by first | (with_reducible assumption) | assumption)
                                            have q333 : x9_3 < (t323.length : Int) := of_decide_eq_true (by first | (with_reducible assumption) | assumption)
                                            obtain ⟨ad333, e333, hx333_0, hx333_1, hx333_2, hx333_3⟩ := at_T43 (Kd.R_reads' HO_333000.out).2.2 x9_3 p333 q333
                                            cases e333
                                            replace p333 := eq_true p333
                                            replace q333 := eq_true q333
                                            have hcz68_0 : wc.cell? ⟨gb318, 0, none⟩ = some (.slice Ao24 t309.length co24) := (blk_cell BK318.out 0).trans rfl
                                            have hcz68_1 : wc.cell? ⟨gb318, 1, none⟩ = some (.slice Ao26 t312.length co26) := (blk_cell BK318.out 1).trans rfl
                                            have hcz68_2 : wc.cell? ⟨gb318, 2, none⟩ = some (.slice Ao27 t315.length co27) := (blk_cell BK318.out 2).trans rfl
                                            have hfz68_0 := blk_frozen BK318.out 0
                                            have hfz68_1 := blk_frozen BK318.out 1
                                            have hfz68_2 := blk_frozen BK318.out 2
                                            have p334 : 0 ≤ (x8_3 : Int) := of_decide_eq_true (by first | (with_reducible assumption) | assumption)
                                            have q334 : x8_3 < (t309.length : Int) := of_decide_eq_true (by first | (with_reducible assumption) | assumption)
                                            obtain ⟨ad334, e334, hx334_0, hx334_1, hx334_2, hx334_3⟩ := at_T43 (Kd.R_reads' HO_319000.out).2.2 x8_3 p334 q334
                                            cases e334
                                            replace p334 := eq_true p334
                                            replace q334 := eq_true q334
                                            go_wp2
                                            repeat (go_quiet (fail); try go_wp2)
                                            go_roundg kj49
                                            case measure => have := HJ18.out; have := HJ33.out; have := HK3.out; have := HJ49.out; omega
                                            case rel => exact ⟨(x8_3), (wrap64 (x9_3 + 1)), (by first | rfl | (simp; done) | (simp [*]; done)), (by first | rfl | (simp; done) | (simp [*]; done)), H', ⟨by have := HJ18.out; have := HJ33.out; have := HK3.out; have := HJ49.out; omega⟩, ⟨by (with_reducible repeat (first | apply Kd.R_alloc | apply Kd.R_drewN | apply Kd.R_drew)); exact HO_319000.out⟩, ⟨by (with_reducible repeat (first | apply Kd.R_alloc | apply Kd.R_drewN | apply Kd.R_drew)); exact HO_319001.out⟩, ⟨by (with_reducible repeat (first | apply Kd.R_alloc | apply Kd.R_drewN | apply Kd.R_drew)); exact HO_319002.out⟩, ⟨by (with_reducible repeat (first | apply Kd.R_alloc | apply Kd.R_drewN | apply Kd.R_drew)); exact HO_333000.out⟩, ⟨by (with_reducible repeat (first | apply Kd.R_alloc | apply Kd.R_drewN | apply Kd.R_drew)); exact HO_333001.out⟩, ⟨by (with_reducible repeat (first | apply Kd.R_alloc | apply Kd.R_drewN | apply Kd.R_drew)); exact HO_333002.out⟩, ⟨by (with_reducible repeat (first | refine blk_drewN ?_ _ | refine blk_drew ?_ | refine blk_alloc ?_ _)); exact BK318.out⟩, ⟨by (with_reducible repeat (first | refine blk_drewN ?_ _ | refine blk_drew ?_ | refine blk_alloc ?_ _)); exact BK332.out⟩, ⟨by repeat (first | (with_reducible first | exact HB.out | apply below_alloc | apply pw_below_drewN | apply below_drew1 | refine below_set ?_ GE318.out | refine below_set ?_ GE332.out) | exact HB.out)⟩⟩
                                        · rw [if_neg c61] at H
                                          exact absurd H (by simp)
                                      · rw [if_neg c60] at H
                                        exact absurd H (by simp)
                                    · rw [if_neg c59] at H
                                      exact absurd H (by simp)
                                  · rw [if_neg c58] at H
                                    exact absurd H (by simp)
                                · replace c57 := Bool.eq_false_iff.mpr c57
                                  subst c57
                                  have H1 : (some (x8_3 == (t309.length : Int))) = some r := by rw [if_neg (show ¬ (false = true) by decide)] at H; exact H
                                  clear H
                                  have H := H1
                                  clear H1
                                  obtain rfl := Option.some.inj H
                                  have hnb69 := NB318_332.out
                                  have hnc69 := NB332_318.out
                                  have hcz70_0 : wc.cell? ⟨gb318, 0, none⟩ = some (.slice Ao24 t309.length co24) := (blk_cell BK318.out 0).trans rfl
                                  have hcz70_1 : wc.cell? ⟨gb318, 1, none⟩ = some (.slice Ao26 t312.length co26) := (blk_cell BK318.out 1).trans rfl
                                  have hcz70_2 : wc.cell? ⟨gb318, 2, none⟩ = some (.slice Ao27 t315.length co27) := (blk_cell BK318.out 2).trans rfl
                                  have hfz70_0 := blk_frozen BK318.out 0
                                  have hfz70_1 := blk_frozen BK318.out 1
                                  have hfz70_2 := blk_frozen BK318.out 2
                                  go_wp2
                                  repeat (go_quiet (fail); try go_wp2)
                                  go_ret
                                  exact ⟨by first | rfl | (simp [errW_none, errW_some] <;> rfl) | (simp only [← hji30]; first | rfl | (simp [errW_none, errW_some] <;> rfl)) | (simp [*, errW_none, errW_some] <;> rfl), by repeat (first | (with_reducible first | exact HB.out | apply below_alloc | apply pw_below_drewN | apply below_drew1 | refine below_set ?_ GE318.out | refine below_set ?_ GE332.out) | exact HB.out)⟩
                · rw [if_neg c32] at H
                  exact absurd H (by simp)
              · rw [if_neg c31] at H
                exact absurd H (by simp)
  · replace c4 := Bool.eq_false_iff.mpr c4
    subst c4
    have H1 : (some false) = some r := by rw [if_neg (show ¬ (false = true) by decide)] at H; exact H
    clear H
    have H := H1
    clear H1
    obtain rfl := Option.some.inj H
    go_enter Try.func5, Try.ntmps5
    go_wp2_with (first | (go_at_call 8; (with_reducible refine (seneschallaw17_awake.calls  false _ A3.out).mono ?_); rintro e w71 ⟨rfl, hb⟩; have n0_ := Aside0.mk (below_step (by repeat (first | (with_reducible first | exact HB.out | apply below_alloc | apply pw_below_drewN | apply below_drew1) | exact HB.out)) hb); clear HB; have HB := n0_; clear n0_; (try clear hb); (try clear hb2); (try clear hk); (try clear hi)))
    repeat (go_quiet (first | (go_at_call 8; (with_reducible refine (seneschallaw17_awake.calls  false _ A3.out).mono ?_); rintro e w71 ⟨rfl, hb⟩; have n0_ := Aside0.mk (below_step (by repeat (first | (with_reducible first | exact HB.out | apply below_alloc | apply pw_below_drewN | apply below_drew1) | exact HB.out)) hb); clear HB; have HB := n0_; clear n0_; (try clear hb); (try clear hb2); (try clear hk); (try clear hi))); try go_wp2_with (first | (go_at_call 8; (with_reducible refine (seneschallaw17_awake.calls  false _ A3.out).mono ?_); rintro e w71 ⟨rfl, hb⟩; have n0_ := Aside0.mk (below_step (by repeat (first | (with_reducible first | exact HB.out | apply below_alloc | apply pw_below_drewN | apply below_drew1) | exact HB.out)) hb); clear HB; have HB := n0_; clear n0_; (try clear hb); (try clear hb2); (try clear hk); (try clear hi))))
    go_ret
    exact ⟨by first | rfl | (simp [errW_none, errW_some] <;> rfl) | (simp [*, errW_none, errW_some] <;> rfl), by repeat (first | (with_reducible first | exact HB.out | apply below_alloc | apply pw_below_drewN | apply below_drew1) | exact HB.out)⟩

-- NOT PRINTED: function 7 (seneschallaw17_PastJoins)

end Go.Proofs.Ytianblmceohmnaa.PAll
