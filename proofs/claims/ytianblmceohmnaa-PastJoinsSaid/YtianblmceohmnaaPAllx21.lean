-- Written by scripts/standin.py (the kit's print with stand-ins) for this claim.
import Derived.Test.YtianblmceohmnaaPAllx0
import Derived.Test.YtianblmceohmnaaPAllx1
import Derived.Test.YtianblmceohmnaaPAllx7
import Derived.Test.YtianblmceohmnaaPAllx8
import Derived.Test.YtianblmceohmnaaPAllx15
import Derived.Test.YtianblmceohmnaaPAllx17
namespace Go.Proofs.Ytianblmceohmnaa.PAll
open Go.RowKit Go.Proofs.YtianblmceohmnaaW.PrintWords Go.Proofs.YtianblmceohmnaaW.PrintLast Go.Proofs.YtianblmceohmnaaW.PrintMore
attribute [local go_sem] max2_int min2_int max_two min_two max_three min_three max_four min_four   -- for this text's walks alone
set_option linter.unusedVariables false
set_option linter.unusedSimpArgs false

attribute [local go_sem high] eqA24
/-! ### seneschallaw17_PastJoins: function 7 -/
mutual
def seneschallaw17_PastJoins.j0 : Nat → List (S31) → List (S31) → Bool → Option (Bool)
 | 0, _, _, _ => none
 | k + 1, x0, x1, x34 => if x34 = true then (some true) else ((some (([] : List (S31)) : List (S31))).bind fun y370 => (if y370.length + x0.length < 1172812402961 then ((some (y370 ++ x0 : List (S31))).bind fun y373 => (if y373.length + x1.length < 1172812402961 then ((past_Read.f (y373 ++ x1) 1).bind fun bt379 => ((past_Read.f x0 1).bind fun bt389 => ((past_Read.f x1 (wrap64 (1 + (x0.length : Int)))).bind fun bt399 => ((some (([] : List (S24)) : List (S24))).bind fun y409 => (if y409.length + bt389.2.1.length < 5864062014805 then (seneschallaw17_PastJoins.l0 k (y409 ++ bt389.2.1) 0 bt379.1 bt379.2.1 bt379.2.2 bt389.1 bt389.2.1 bt389.2.2 bt399.1 bt399.2.1 bt399.2.2) else (none)))))) else (none))) else (none)))
def seneschallaw17_PastJoins.l0 : Nat → List (S24) → Int → List (S43) → List (S24) → List (S45) → List (S43) → List (S24) → List (S45) → List (S43) → List (S24) → List (S45) → Option (Bool)
 | 0, _, _, _, _, _, _, _, _, _, _, _ => none
 | k + 1, x8, x9, x389000, x389001, x389002, x399000, x399001, x399002, x409000, x409001, x409002 => if x9 < (x409001.length : Int) then (seneschallaw17_PastJoins.l1 k x8 x9 false 0 x389000 x389001 x389002 x399000 x399001 x399002 x409000 x409001 x409002) else (if (x389001.length : Int) = (x8.length : Int) then (seneschallaw17_PastJoins.l2 k x8 0 x389000 x389001 x389002 x399000 x399001 x399002 x409000 x409001 x409002) else (some false))
def seneschallaw17_PastJoins.l1 : Nat → List (S24) → Int → Bool → Int → List (S43) → List (S24) → List (S45) → List (S43) → List (S24) → List (S45) → List (S43) → List (S24) → List (S45) → Option (Bool)
 | 0, _, _, _, _, _, _, _, _, _, _, _, _, _ => none
 | k + 1, x8, x9, x10, x11, x389000, x389001, x389002, x399000, x399001, x399002, x409000, x409001, x409002 => if x11 < (x399001.length : Int) then (if x10 = true then (seneschallaw17_PastJoins.l1 k x8 x9 true (wrap64 (x11 + 1)) x389000 x389001 x389002 x399000 x399001 x399002 x409000 x409001 x409002) else (if 0 ≤ x11 then (if 0 ≤ x9 then (if x9 < (x409001.length : Int) then (seneschallaw17_PastJoins.l1 k x8 x9 (((rd_T24 x399001 x11).f0) == ((rd_T24 x409001 x9).f0) && (((rd_T24 x399001 x11).f1) == ((rd_T24 x409001 x9).f1) && (((rd_T24 x399001 x11).f2) == ((rd_T24 x409001 x9).f2)))) (wrap64 (x11 + 1)) x389000 x389001 x389002 x399000 x399001 x399002 x409000 x409001 x409002) else (none)) else (none)) else (none))) else (if x10 = true then (seneschallaw17_PastJoins.l0 k x8 (wrap64 (x9 + 1)) x389000 x389001 x389002 x399000 x399001 x399002 x409000 x409001 x409002) else (if 0 ≤ x9 then (if x9 < (x409001.length : Int) then (if x8.length < 5864062014805 then (seneschallaw17_PastJoins.l0 k (x8 ++ [(⟨(rd_T24 x409001 x9).f0, (rd_T24 x409001 x9).f1, (rd_T24 x409001 x9).f2⟩ : S24)]) (wrap64 (x9 + 1)) x389000 x389001 x389002 x399000 x399001 x399002 x409000 x409001 x409002) else (none)) else (none)) else (none)))
def seneschallaw17_PastJoins.l2 : Nat → List (S24) → Int → List (S43) → List (S24) → List (S45) → List (S43) → List (S24) → List (S45) → List (S43) → List (S24) → List (S45) → Option (Bool)
 | 0, _, _, _, _, _, _, _, _, _, _, _ => none
 | k + 1, x8, x12, x389000, x389001, x389002, x399000, x399001, x399002, x409000, x409001, x409002 => if x12 < (x8.length : Int) then (if 0 ≤ x12 then (if x12 < (x389001.length : Int) then (if (!(((rd_T24 x389001 x12).f0) == ((rd_T24 x8 x12).f0)) || (!(((rd_T24 x389001 x12).f1) == ((rd_T24 x8 x12).f1)) || (!(((rd_T24 x389001 x12).f2) == ((rd_T24 x8 x12).f2))))) = true then (some false) else (seneschallaw17_PastJoins.l2 k x8 (wrap64 (x12 + 1)) x389000 x389001 x389002 x399000 x399001 x399002 x409000 x409001 x409002)) else (none)) else (none)) else (seneschallaw17_PastJoins.l3 k 0 x389000 x389001 x389002 x399000 x399001 x399002 x409000 x409001 x409002)
def seneschallaw17_PastJoins.l3 : Nat → Int → List (S43) → List (S24) → List (S45) → List (S43) → List (S24) → List (S45) → List (S43) → List (S24) → List (S45) → Option (Bool)
 | 0, _, _, _, _, _, _, _, _, _, _ => none
 | k + 1, x13, x389000, x389001, x389002, x399000, x399001, x399002, x409000, x409001, x409002 => if x13 < (x389002.length : Int) then (seneschallaw17_PastJoins.l4 k x13 0 0 x389000 x389001 x389002 x399000 x399001 x399002 x409000 x409001 x409002) else (if (x389002.length : Int) ≥ (x399002.length : Int) then (some (decide ((x389002.length : Int) ≥ (x409002.length : Int)))) else (some false))
def seneschallaw17_PastJoins.l4 : Nat → Int → Int → Int → List (S43) → List (S24) → List (S45) → List (S43) → List (S24) → List (S45) → List (S43) → List (S24) → List (S45) → Option (Bool)
 | 0, _, _, _, _, _, _, _, _, _, _, _, _ => none
 | k + 1, x13, x14, x15, x389000, x389001, x389002, x399000, x399001, x399002, x409000, x409001, x409002 => if x15 < (x409002.length : Int) then (if 0 ≤ x15 then (if 0 ≤ x13 then (if x13 < (x389002.length : Int) then (if ((rd_T45 x409002 x15).f0) = ((rd_T45 x389002 x13).f0) then (seneschallaw17_PastJoins.l4 k x13 ((rd_T45 x409002 x15).f1) (wrap64 (x15 + 1)) x389000 x389001 x389002 x399000 x399001 x399002 x409000 x409001 x409002) else (seneschallaw17_PastJoins.l4 k x13 x14 (wrap64 (x15 + 1)) x389000 x389001 x389002 x399000 x399001 x399002 x409000 x409001 x409002)) else (none)) else (none)) else (none)) else (seneschallaw17_PastJoins.l5 k x13 x14 0 x389000 x389001 x389002 x399000 x399001 x399002 x409000 x409001 x409002)
def seneschallaw17_PastJoins.l5 : Nat → Int → Int → Int → List (S43) → List (S24) → List (S45) → List (S43) → List (S24) → List (S45) → List (S43) → List (S24) → List (S45) → Option (Bool)
 | 0, _, _, _, _, _, _, _, _, _, _, _, _ => none
 | k + 1, x13, x14, x16, x389000, x389001, x389002, x399000, x399001, x399002, x409000, x409001, x409002 => if x16 < (x399002.length : Int) then (if 0 ≤ x16 then (if 0 ≤ x13 then (if x13 < (x389002.length : Int) then (if ((rd_T45 x399002 x16).f0) = ((rd_T45 x389002 x13).f0) then (seneschallaw17_PastJoins.l5 k x13 ((rd_T45 x399002 x16).f1) (wrap64 (x16 + 1)) x389000 x389001 x389002 x399000 x399001 x399002 x409000 x409001 x409002) else (seneschallaw17_PastJoins.l5 k x13 x14 (wrap64 (x16 + 1)) x389000 x389001 x389002 x399000 x399001 x399002 x409000 x409001 x409002)) else (none)) else (none)) else (none)) else (if 0 ≤ x13 then (if x13 < (x389002.length : Int) then (if x14 = ((rd_T45 x389002 x13).f1) then (seneschallaw17_PastJoins.l3 k (wrap64 (x13 + 1)) x389000 x389001 x389002 x399000 x399001 x399002 x409000 x409001 x409002) else (some false)) else (none)) else (none))
end
def seneschallaw17_PastJoins.f (k : Nat) (l0 : List (S31)) (l1 : List (S31)) : Option (Bool) := (seneschallaw17_awake.f).bind fun t367 => (if t367 = true then (if (l0.length : Int) > 40 then (seneschallaw17_PastJoins.j0 k l0 l1 true) else (if (l1.length : Int) > 40 then (seneschallaw17_PastJoins.j0 k l0 l1 true) else ((seneschallaw17_great.f k l0).bind fun t368 => (if t368 = true then (seneschallaw17_PastJoins.j0 k l0 l1 true) else ((seneschallaw17_great.f k l1).bind fun t369 => (seneschallaw17_PastJoins.j0 k l0 l1 t369)))))) else (some false))
theorem seneschallaw17_PastJoins.mono_l : ∀ k, (∀ y0 y1 y2, LeO (seneschallaw17_PastJoins.j0 k y0 y1 y2) (seneschallaw17_PastJoins.j0 (k + 1) y0 y1 y2)) ∧ (∀ y0 y1 y2 y3 y4 y5 y6 y7 y8 y9 y10, LeO (seneschallaw17_PastJoins.l0 k y0 y1 y2 y3 y4 y5 y6 y7 y8 y9 y10) (seneschallaw17_PastJoins.l0 (k + 1) y0 y1 y2 y3 y4 y5 y6 y7 y8 y9 y10)) ∧ (∀ y0 y1 y2 y3 y4 y5 y6 y7 y8 y9 y10 y11 y12, LeO (seneschallaw17_PastJoins.l1 k y0 y1 y2 y3 y4 y5 y6 y7 y8 y9 y10 y11 y12) (seneschallaw17_PastJoins.l1 (k + 1) y0 y1 y2 y3 y4 y5 y6 y7 y8 y9 y10 y11 y12)) ∧ (∀ y0 y1 y2 y3 y4 y5 y6 y7 y8 y9 y10, LeO (seneschallaw17_PastJoins.l2 k y0 y1 y2 y3 y4 y5 y6 y7 y8 y9 y10) (seneschallaw17_PastJoins.l2 (k + 1) y0 y1 y2 y3 y4 y5 y6 y7 y8 y9 y10)) ∧ (∀ y0 y1 y2 y3 y4 y5 y6 y7 y8 y9, LeO (seneschallaw17_PastJoins.l3 k y0 y1 y2 y3 y4 y5 y6 y7 y8 y9) (seneschallaw17_PastJoins.l3 (k + 1) y0 y1 y2 y3 y4 y5 y6 y7 y8 y9)) ∧ (∀ y0 y1 y2 y3 y4 y5 y6 y7 y8 y9 y10 y11, LeO (seneschallaw17_PastJoins.l4 k y0 y1 y2 y3 y4 y5 y6 y7 y8 y9 y10 y11) (seneschallaw17_PastJoins.l4 (k + 1) y0 y1 y2 y3 y4 y5 y6 y7 y8 y9 y10 y11)) ∧ (∀ y0 y1 y2 y3 y4 y5 y6 y7 y8 y9 y10 y11, LeO (seneschallaw17_PastJoins.l5 k y0 y1 y2 y3 y4 y5 y6 y7 y8 y9 y10 y11) (seneschallaw17_PastJoins.l5 (k + 1) y0 y1 y2 y3 y4 y5 y6 y7 y8 y9 y10 y11))
 | 0 => ⟨fun _ _ _ r h => by simp [seneschallaw17_PastJoins.j0] at h, fun _ _ _ _ _ _ _ _ _ _ _ r h => by simp [seneschallaw17_PastJoins.l0] at h, fun _ _ _ _ _ _ _ _ _ _ _ _ _ r h => by simp [seneschallaw17_PastJoins.l1] at h, fun _ _ _ _ _ _ _ _ _ _ _ r h => by simp [seneschallaw17_PastJoins.l2] at h, fun _ _ _ _ _ _ _ _ _ _ r h => by simp [seneschallaw17_PastJoins.l3] at h, fun _ _ _ _ _ _ _ _ _ _ _ _ r h => by simp [seneschallaw17_PastJoins.l4] at h, fun _ _ _ _ _ _ _ _ _ _ _ _ r h => by simp [seneschallaw17_PastJoins.l5] at h⟩
 | k + 1 => by
  obtain ⟨ih0, ih1, ih2, ih3, ih4, ih5, ih6⟩ := seneschallaw17_PastJoins.mono_l k
  refine ⟨?_, ?_, ?_, ?_, ?_, ?_, ?_⟩
  · intro y0 y1 y2
    unfold seneschallaw17_PastJoins.j0
    repeat' first
    | (with_reducible exact ih0 _ _ _)
    | (with_reducible exact ih1 _ _ _ _ _ _ _ _ _ _ _)
    | (with_reducible exact ih2 _ _ _ _ _ _ _ _ _ _ _ _ _)
    | (with_reducible exact ih3 _ _ _ _ _ _ _ _ _ _ _)
    | (with_reducible exact ih4 _ _ _ _ _ _ _ _ _ _)
    | (with_reducible exact ih5 _ _ _ _ _ _ _ _ _ _ _ _)
    | (with_reducible exact ih6 _ _ _ _ _ _ _ _ _ _ _ _)
    | (with_reducible exact seneschallaw17_great.mono _ _)
    | (with_reducible exact LeO.refl _)
    | (with_reducible exact LeO.none _)
    | (with_reducible refine LeO.ite ?_ ?_)
    | (with_reducible refine LeO.bind ?_ (fun _ => ?_))
    | exact ih0 _ _ _
    | exact ih1 _ _ _ _ _ _ _ _ _ _ _
    | exact ih2 _ _ _ _ _ _ _ _ _ _ _ _ _
    | exact ih3 _ _ _ _ _ _ _ _ _ _ _
    | exact ih4 _ _ _ _ _ _ _ _ _ _
    | exact ih5 _ _ _ _ _ _ _ _ _ _ _ _
    | exact ih6 _ _ _ _ _ _ _ _ _ _ _ _
    | exact seneschallaw17_great.mono _ _
    | exact LeO.none _
    | refine LeO.ite ?_ ?_
    | refine LeO.bind ?_ (fun _ => ?_)
  · intro y0 y1 y2 y3 y4 y5 y6 y7 y8 y9 y10
    unfold seneschallaw17_PastJoins.l0
    repeat' first
    | (with_reducible exact ih0 _ _ _)
    | (with_reducible exact ih1 _ _ _ _ _ _ _ _ _ _ _)
    | (with_reducible exact ih2 _ _ _ _ _ _ _ _ _ _ _ _ _)
    | (with_reducible exact ih3 _ _ _ _ _ _ _ _ _ _ _)
    | (with_reducible exact ih4 _ _ _ _ _ _ _ _ _ _)
    | (with_reducible exact ih5 _ _ _ _ _ _ _ _ _ _ _ _)
    | (with_reducible exact ih6 _ _ _ _ _ _ _ _ _ _ _ _)
    | (with_reducible exact seneschallaw17_great.mono _ _)
    | (with_reducible exact LeO.refl _)
    | (with_reducible exact LeO.none _)
    | (with_reducible refine LeO.ite ?_ ?_)
    | (with_reducible refine LeO.bind ?_ (fun _ => ?_))
    | exact ih0 _ _ _
    | exact ih1 _ _ _ _ _ _ _ _ _ _ _
    | exact ih2 _ _ _ _ _ _ _ _ _ _ _ _ _
    | exact ih3 _ _ _ _ _ _ _ _ _ _ _
    | exact ih4 _ _ _ _ _ _ _ _ _ _
    | exact ih5 _ _ _ _ _ _ _ _ _ _ _ _
    | exact ih6 _ _ _ _ _ _ _ _ _ _ _ _
    | exact seneschallaw17_great.mono _ _
    | exact LeO.none _
    | refine LeO.ite ?_ ?_
    | refine LeO.bind ?_ (fun _ => ?_)
  · intro y0 y1 y2 y3 y4 y5 y6 y7 y8 y9 y10 y11 y12
    unfold seneschallaw17_PastJoins.l1
    repeat' first
    | (with_reducible exact ih0 _ _ _)
    | (with_reducible exact ih1 _ _ _ _ _ _ _ _ _ _ _)
    | (with_reducible exact ih2 _ _ _ _ _ _ _ _ _ _ _ _ _)
    | (with_reducible exact ih3 _ _ _ _ _ _ _ _ _ _ _)
    | (with_reducible exact ih4 _ _ _ _ _ _ _ _ _ _)
    | (with_reducible exact ih5 _ _ _ _ _ _ _ _ _ _ _ _)
    | (with_reducible exact ih6 _ _ _ _ _ _ _ _ _ _ _ _)
    | (with_reducible exact seneschallaw17_great.mono _ _)
    | (with_reducible exact LeO.refl _)
    | (with_reducible exact LeO.none _)
    | (with_reducible refine LeO.ite ?_ ?_)
    | (with_reducible refine LeO.bind ?_ (fun _ => ?_))
    | exact ih0 _ _ _
    | exact ih1 _ _ _ _ _ _ _ _ _ _ _
    | exact ih2 _ _ _ _ _ _ _ _ _ _ _ _ _
    | exact ih3 _ _ _ _ _ _ _ _ _ _ _
    | exact ih4 _ _ _ _ _ _ _ _ _ _
    | exact ih5 _ _ _ _ _ _ _ _ _ _ _ _
    | exact ih6 _ _ _ _ _ _ _ _ _ _ _ _
    | exact seneschallaw17_great.mono _ _
    | exact LeO.none _
    | refine LeO.ite ?_ ?_
    | refine LeO.bind ?_ (fun _ => ?_)
  · intro y0 y1 y2 y3 y4 y5 y6 y7 y8 y9 y10
    unfold seneschallaw17_PastJoins.l2
    repeat' first
    | (with_reducible exact ih0 _ _ _)
    | (with_reducible exact ih1 _ _ _ _ _ _ _ _ _ _ _)
    | (with_reducible exact ih2 _ _ _ _ _ _ _ _ _ _ _ _ _)
    | (with_reducible exact ih3 _ _ _ _ _ _ _ _ _ _ _)
    | (with_reducible exact ih4 _ _ _ _ _ _ _ _ _ _)
    | (with_reducible exact ih5 _ _ _ _ _ _ _ _ _ _ _ _)
    | (with_reducible exact ih6 _ _ _ _ _ _ _ _ _ _ _ _)
    | (with_reducible exact seneschallaw17_great.mono _ _)
    | (with_reducible exact LeO.refl _)
    | (with_reducible exact LeO.none _)
    | (with_reducible refine LeO.ite ?_ ?_)
    | (with_reducible refine LeO.bind ?_ (fun _ => ?_))
    | exact ih0 _ _ _
    | exact ih1 _ _ _ _ _ _ _ _ _ _ _
    | exact ih2 _ _ _ _ _ _ _ _ _ _ _ _ _
    | exact ih3 _ _ _ _ _ _ _ _ _ _ _
    | exact ih4 _ _ _ _ _ _ _ _ _ _
    | exact ih5 _ _ _ _ _ _ _ _ _ _ _ _
    | exact ih6 _ _ _ _ _ _ _ _ _ _ _ _
    | exact seneschallaw17_great.mono _ _
    | exact LeO.none _
    | refine LeO.ite ?_ ?_
    | refine LeO.bind ?_ (fun _ => ?_)
  · intro y0 y1 y2 y3 y4 y5 y6 y7 y8 y9
    unfold seneschallaw17_PastJoins.l3
    repeat' first
    | (with_reducible exact ih0 _ _ _)
    | (with_reducible exact ih1 _ _ _ _ _ _ _ _ _ _ _)
    | (with_reducible exact ih2 _ _ _ _ _ _ _ _ _ _ _ _ _)
    | (with_reducible exact ih3 _ _ _ _ _ _ _ _ _ _ _)
    | (with_reducible exact ih4 _ _ _ _ _ _ _ _ _ _)
    | (with_reducible exact ih5 _ _ _ _ _ _ _ _ _ _ _ _)
    | (with_reducible exact ih6 _ _ _ _ _ _ _ _ _ _ _ _)
    | (with_reducible exact seneschallaw17_great.mono _ _)
    | (with_reducible exact LeO.refl _)
    | (with_reducible exact LeO.none _)
    | (with_reducible refine LeO.ite ?_ ?_)
    | (with_reducible refine LeO.bind ?_ (fun _ => ?_))
    | exact ih0 _ _ _
    | exact ih1 _ _ _ _ _ _ _ _ _ _ _
    | exact ih2 _ _ _ _ _ _ _ _ _ _ _ _ _
    | exact ih3 _ _ _ _ _ _ _ _ _ _ _
    | exact ih4 _ _ _ _ _ _ _ _ _ _
    | exact ih5 _ _ _ _ _ _ _ _ _ _ _ _
    | exact ih6 _ _ _ _ _ _ _ _ _ _ _ _
    | exact seneschallaw17_great.mono _ _
    | exact LeO.none _
    | refine LeO.ite ?_ ?_
    | refine LeO.bind ?_ (fun _ => ?_)
  · intro y0 y1 y2 y3 y4 y5 y6 y7 y8 y9 y10 y11
    unfold seneschallaw17_PastJoins.l4
    repeat' first
    | (with_reducible exact ih0 _ _ _)
    | (with_reducible exact ih1 _ _ _ _ _ _ _ _ _ _ _)
    | (with_reducible exact ih2 _ _ _ _ _ _ _ _ _ _ _ _ _)
    | (with_reducible exact ih3 _ _ _ _ _ _ _ _ _ _ _)
    | (with_reducible exact ih4 _ _ _ _ _ _ _ _ _ _)
    | (with_reducible exact ih5 _ _ _ _ _ _ _ _ _ _ _ _)
    | (with_reducible exact ih6 _ _ _ _ _ _ _ _ _ _ _ _)
    | (with_reducible exact seneschallaw17_great.mono _ _)
    | (with_reducible exact LeO.refl _)
    | (with_reducible exact LeO.none _)
    | (with_reducible refine LeO.ite ?_ ?_)
    | (with_reducible refine LeO.bind ?_ (fun _ => ?_))
    | exact ih0 _ _ _
    | exact ih1 _ _ _ _ _ _ _ _ _ _ _
    | exact ih2 _ _ _ _ _ _ _ _ _ _ _ _ _
    | exact ih3 _ _ _ _ _ _ _ _ _ _ _
    | exact ih4 _ _ _ _ _ _ _ _ _ _
    | exact ih5 _ _ _ _ _ _ _ _ _ _ _ _
    | exact ih6 _ _ _ _ _ _ _ _ _ _ _ _
    | exact seneschallaw17_great.mono _ _
    | exact LeO.none _
    | refine LeO.ite ?_ ?_
    | refine LeO.bind ?_ (fun _ => ?_)
  · intro y0 y1 y2 y3 y4 y5 y6 y7 y8 y9 y10 y11
    unfold seneschallaw17_PastJoins.l5
    repeat' first
    | (with_reducible exact ih0 _ _ _)
    | (with_reducible exact ih1 _ _ _ _ _ _ _ _ _ _ _)
    | (with_reducible exact ih2 _ _ _ _ _ _ _ _ _ _ _ _ _)
    | (with_reducible exact ih3 _ _ _ _ _ _ _ _ _ _ _)
    | (with_reducible exact ih4 _ _ _ _ _ _ _ _ _ _)
    | (with_reducible exact ih5 _ _ _ _ _ _ _ _ _ _ _ _)
    | (with_reducible exact ih6 _ _ _ _ _ _ _ _ _ _ _ _)
    | (with_reducible exact seneschallaw17_great.mono _ _)
    | (with_reducible exact LeO.refl _)
    | (with_reducible exact LeO.none _)
    | (with_reducible refine LeO.ite ?_ ?_)
    | (with_reducible refine LeO.bind ?_ (fun _ => ?_))
    | exact ih0 _ _ _
    | exact ih1 _ _ _ _ _ _ _ _ _ _ _
    | exact ih2 _ _ _ _ _ _ _ _ _ _ _ _ _
    | exact ih3 _ _ _ _ _ _ _ _ _ _ _
    | exact ih4 _ _ _ _ _ _ _ _ _ _
    | exact ih5 _ _ _ _ _ _ _ _ _ _ _ _
    | exact ih6 _ _ _ _ _ _ _ _ _ _ _ _
    | exact seneschallaw17_great.mono _ _
    | exact LeO.none _
    | refine LeO.ite ?_ ?_
    | refine LeO.bind ?_ (fun _ => ?_)
theorem seneschallaw17_PastJoins.mono : ∀ a0 a1 k, LeO (seneschallaw17_PastJoins.f k a0 a1) (seneschallaw17_PastJoins.f (k + 1) a0 a1) := by
 intro a0 a1 k
 obtain ⟨ih0, ih1, ih2, ih3, ih4, ih5, ih6⟩ := seneschallaw17_PastJoins.mono_l k
 unfold seneschallaw17_PastJoins.f
 repeat' first
  | (with_reducible exact ih0 _ _ _)
  | (with_reducible exact ih1 _ _ _ _ _ _ _ _ _ _ _)
  | (with_reducible exact ih2 _ _ _ _ _ _ _ _ _ _ _ _ _)
  | (with_reducible exact ih3 _ _ _ _ _ _ _ _ _ _ _)
  | (with_reducible exact ih4 _ _ _ _ _ _ _ _ _ _)
  | (with_reducible exact ih5 _ _ _ _ _ _ _ _ _ _ _ _)
  | (with_reducible exact ih6 _ _ _ _ _ _ _ _ _ _ _ _)
  | (with_reducible exact seneschallaw17_great.mono _ _)
  | (with_reducible exact LeO.refl _)
  | (with_reducible exact LeO.none _)
  | (with_reducible refine LeO.ite ?_ ?_)
  | (with_reducible refine LeO.bind ?_ (fun _ => ?_))
  | exact ih0 _ _ _
  | exact ih1 _ _ _ _ _ _ _ _ _ _ _
  | exact ih2 _ _ _ _ _ _ _ _ _ _ _ _ _
  | exact ih3 _ _ _ _ _ _ _ _ _ _ _
  | exact ih4 _ _ _ _ _ _ _ _ _ _
  | exact ih5 _ _ _ _ _ _ _ _ _ _ _ _
  | exact ih6 _ _ _ _ _ _ _ _ _ _ _ _
  | exact seneschallaw17_great.mono _ _
  | exact LeO.none _
  | refine LeO.ite ?_ ?_
  | refine LeO.bind ?_ (fun _ => ?_)
set_option maxHeartbeats 8000000 in
set_option maxRecDepth 100000 in
theorem seneschallaw17_PastJoins.calls (k : Nat) (A0 : Option Addr) (c0 : Nat) (l0 : List (S31)) (A1 : Option Addr) (c1 : Nat) (l1 : List (S31)) (r : Bool) (w : World) (hr0 : Kd.C k31 w A0 l0.length l0) (hc0 : l0.length ≤ c0) (hr1 : Kd.C k31 w A1 l1.length l1) (hc1 : l1.length ≤ c1) (h : seneschallaw17_PastJoins.f k l0 l1 = some r) :
 Calls Try.prog 7 #[.slice A0 l0.length c0, .slice A1 l1.length c1] w fun e w' => e = .returned (.bool r) ∧ Below w.heap.size w w' := by
 have hu37 := Try.underlying37
 have hu24 := Try.underlying24
 have HR0 := Aside0.mk hr0
 have HC0 := Aside0.mk hc0
 clear hr0 hc0
 have HR1 := Aside0.mk hr1
 have HC1 := Aside0.mk hc1
 clear hr1 hc1
 have HB := Aside0.mk (Below.refl w.heap.size w)
 have H : ((seneschallaw17_awake.f).bind fun t367 => (if t367 = true then (if (l0.length : Int) > 40 then (seneschallaw17_PastJoins.j0 k l0 l1 true) else (if (l1.length : Int) > 40 then (seneschallaw17_PastJoins.j0 k l0 l1 true) else ((seneschallaw17_great.f k l0).bind fun t368 => (if t368 = true then (seneschallaw17_PastJoins.j0 k l0 l1 true) else ((seneschallaw17_great.f k l1).bind fun t369 => (seneschallaw17_PastJoins.j0 k l0 l1 t369)))))) else (some false))) = some r := h
 clear h
 replace H := Option.bind_eq_some_iff.mp H
 obtain ⟨t367, A30, H⟩ := H
 replace H : (if t367 = true then (if (l0.length : Int) > 40 then (seneschallaw17_PastJoins.j0 k l0 l1 true) else (if (l1.length : Int) > 40 then (seneschallaw17_PastJoins.j0 k l0 l1 true) else ((seneschallaw17_great.f k l0).bind fun t368 => (if t368 = true then (seneschallaw17_PastJoins.j0 k l0 l1 true) else ((seneschallaw17_great.f k l1).bind fun t369 => (seneschallaw17_PastJoins.j0 k l0 l1 t369)))))) else (some false)) = some r := H
 have A3 := Aside0.mk A30
 clear A30
 by_cases c4 : t367 = true
 · subst c4
   have H1 : (if (l0.length : Int) > 40 then (seneschallaw17_PastJoins.j0 k l0 l1 true) else (if (l1.length : Int) > 40 then (seneschallaw17_PastJoins.j0 k l0 l1 true) else ((seneschallaw17_great.f k l0).bind fun t368 => (if t368 = true then (seneschallaw17_PastJoins.j0 k l0 l1 true) else ((seneschallaw17_great.f k l1).bind fun t369 => (seneschallaw17_PastJoins.j0 k l0 l1 t369)))))) = some r := by rw [if_pos rfl] at H; exact H
   clear H
   have H := H1
   clear H1
   have HC5 := Aside0.mk H
   clear H
   go_enter Try.func7, Try.ntmps7
   go_upto_region 3 with (first | (go_at_call 8; (with_reducible refine (seneschallaw17_awake.calls  true _ A3.out).mono ?_); rintro e w6 ⟨rfl, hb⟩; have n0_ := Aside0.mk (below_step (by repeat (first | (with_reducible first | exact HB.out | apply below_alloc | apply pw_below_drewN | apply below_drew1) | exact HB.out)) hb); clear HB; have HB := n0_; clear n0_; (try clear hb); (try clear hb2); (try clear hk); (try clear hi)))
   repeat (go_quiet (first | (go_at_call 8; (with_reducible refine (seneschallaw17_awake.calls  true _ A3.out).mono ?_); rintro e w6 ⟨rfl, hb⟩; have n0_ := Aside0.mk (below_step (by repeat (first | (with_reducible first | exact HB.out | apply below_alloc | apply pw_below_drewN | apply below_drew1) | exact HB.out)) hb); clear HB; have HB := n0_; clear n0_; (try clear hb); (try clear hb2); (try clear hk); (try clear hi))); go_upto_region 3 with (first | (go_at_call 8; (with_reducible refine (seneschallaw17_awake.calls  true _ A3.out).mono ?_); rintro e w6 ⟨rfl, hb⟩; have n0_ := Aside0.mk (below_step (by repeat (first | (with_reducible first | exact HB.out | apply below_alloc | apply pw_below_drewN | apply below_drew1) | exact HB.out)) hb); clear HB; have HB := n0_; clear n0_; (try clear hb); (try clear hb2); (try clear hk); (try clear hi))))
   (try simp only [Act.put, List.setIfInBounds_toArray, List.set_cons_zero, List.set_cons_succ])
   go_cut [34] (fun v34 wc => ∃ (kq : Nat) (x34_4 : Bool), v34 = .bool x34_4 ∧ Aside0 (seneschallaw17_PastJoins.j0 kq l0 l1 x34_4 = some r) ∧ Aside0 (kq ≤ k) ∧ Aside0 (Below w.heap.size w wc))
   case first =>
    have H := HC5.out
    clear HC5
    by_cases c7 : (l0.length : Int) > 40
    · rw [if_pos c7] at H
      have c7b0 : decide (40 < (l0.length : Int)) = true := decide_eq_true c7
      have c7b1 : decide (40 < l0.length) = true := decide_eq_true (by omega)
      clear c7
      (first | rw [c7b0] | (simp only [i64_w, i32_w]; rw [c7b0]) | skip)
      have H' := Aside0.mk H
      clear H
      go_wp2
      repeat (go_quiet (fail); try go_wp2)
      go_meet
      case rel => exact ⟨_, (true), (by first | rfl | (simp; done) | (simp [*]; done)), H', ⟨by first | omega | exact Nat.le_refl _⟩, ⟨by repeat (first | (with_reducible first | exact HB.out | apply below_alloc | apply pw_below_drewN | apply below_drew1) | exact HB.out)⟩⟩
    · rw [if_neg c7] at H
      have c7b0 : decide (40 < (l0.length : Int)) = false := decide_eq_false c7
      have c7b1 : decide (40 < l0.length) = false := decide_eq_false (by omega)
      clear c7
      (first | rw [c7b0] | (simp only [i64_w, i32_w]; rw [c7b0]) | skip)
      by_cases c8 : (l1.length : Int) > 40
      · rw [if_pos c8] at H
        have c8b0 : decide (40 < (l1.length : Int)) = true := decide_eq_true c8
        have c8b1 : decide (40 < l1.length) = true := decide_eq_true (by omega)
        clear c8
        have H' := Aside0.mk H
        clear H
        go_wp2
        repeat (go_quiet (fail); try go_wp2)
        go_meet
        case rel => exact ⟨_, (true), (by first | rfl | (simp; done) | (simp [*]; done)), H', ⟨by first | omega | exact Nat.le_refl _⟩, ⟨by repeat (first | (with_reducible first | exact HB.out | apply below_alloc | apply pw_below_drewN | apply below_drew1) | exact HB.out)⟩⟩
      · rw [if_neg c8] at H
        have c8b0 : decide (40 < (l1.length : Int)) = false := decide_eq_false c8
        have c8b1 : decide (40 < l1.length) = false := decide_eq_false (by omega)
        clear c8
        replace H := Option.bind_eq_some_iff.mp H
        obtain ⟨t368, A90, H⟩ := H
        replace H : (if t368 = true then (seneschallaw17_PastJoins.j0 k l0 l1 true) else ((seneschallaw17_great.f k l1).bind fun t369 => (seneschallaw17_PastJoins.j0 k l0 l1 t369))) = some r := H
        have A9 := Aside0.mk A90
        clear A90
        by_cases c10 : t368 = true
        · subst c10
          have H1 : (seneschallaw17_PastJoins.j0 k l0 l1 true) = some r := by rw [if_pos rfl] at H; exact H
          clear H
          have H := H1
          clear H1
          have H' := Aside0.mk H
          clear H
          go_wp2_with (first | (go_at_call 9; (with_reducible refine (seneschallaw17_great.calls k _ _ l0 true _ ?side1 ?side2 A9.out).mono ?_); (case side1 => repeat (first | exact (Kd.C_below HR0.out HB.out) | (with_reducible refine Kd.C_alloc ?_ _) | (with_reducible refine Kd.C_drewN ?_ _) | (with_reducible refine Kd.C_drew ?_))); (case side2 => exact HC0.out); rintro e w' ⟨rfl, ⟨nd, rfl⟩⟩; (try first | exact ⟨rfl, _, World.drewN_drewN _ _ _⟩ | exact ⟨rfl, _, Eq.trans (World.drewN_drewN _ _ _) (congrArg (World.drewN _) (Nat.add_assoc _ _ _))⟩)))
          repeat (go_quiet (fail); try go_wp2_with (fail))
          go_meet
          case rel => exact ⟨_, (true), (by first | rfl | (simp; done) | (simp [*]; done)), H', ⟨by first | omega | exact Nat.le_refl _⟩, ⟨by repeat (first | (with_reducible first | exact HB.out | apply below_alloc | apply pw_below_drewN | apply below_drew1) | exact HB.out)⟩⟩
        · replace c10 := Bool.eq_false_iff.mpr c10
          subst c10
          have H1 : ((seneschallaw17_great.f k l1).bind fun t369 => (seneschallaw17_PastJoins.j0 k l0 l1 t369)) = some r := by rw [if_neg (show ¬ (false = true) by decide)] at H; exact H
          clear H
          have H := H1
          clear H1
          replace H := Option.bind_eq_some_iff.mp H
          obtain ⟨t369, A110, H⟩ := H
          replace H : (seneschallaw17_PastJoins.j0 k l0 l1 t369) = some r := H
          have A11 := Aside0.mk A110
          clear A110
          have H' := Aside0.mk H
          clear H
          go_wp2_with (first | (go_at_call 9; (with_reducible refine (seneschallaw17_great.calls k _ _ l0 false _ ?side1 ?side2 A9.out).mono ?_); (case side1 => repeat (first | exact (Kd.C_below HR0.out HB.out) | (with_reducible refine Kd.C_alloc ?_ _) | (with_reducible refine Kd.C_drewN ?_ _) | (with_reducible refine Kd.C_drew ?_))); (case side2 => exact HC0.out); rintro e w' ⟨rfl, ⟨nd, rfl⟩⟩; (try first | exact ⟨rfl, _, World.drewN_drewN _ _ _⟩ | exact ⟨rfl, _, Eq.trans (World.drewN_drewN _ _ _) (congrArg (World.drewN _) (Nat.add_assoc _ _ _))⟩)) | (go_at_call 9; (with_reducible refine (seneschallaw17_great.calls k _ _ l1 t369 _ ?side1 ?side2 A11.out).mono ?_); (case side1 => repeat (first | exact (Kd.C_below HR1.out (by repeat (first | (with_reducible first | exact HB.out | apply below_alloc | apply pw_below_drewN | apply below_drew1) | exact HB.out))) | (with_reducible refine Kd.C_alloc ?_ _) | (with_reducible refine Kd.C_drewN ?_ _) | (with_reducible refine Kd.C_drew ?_))); (case side2 => exact HC1.out); rintro e w' ⟨rfl, ⟨nd, rfl⟩⟩; (try first | exact ⟨rfl, _, World.drewN_drewN _ _ _⟩ | exact ⟨rfl, _, Eq.trans (World.drewN_drewN _ _ _) (congrArg (World.drewN _) (Nat.add_assoc _ _ _))⟩)))
          repeat (go_quiet (fail); try go_wp2_with (fail))
          go_meet
          case rel => exact ⟨_, (t369), (by first | rfl | (simp; done) | (simp [*]; done)), H', ⟨by first | omega | exact Nat.le_refl _⟩, ⟨by repeat (first | (with_reducible first | exact HB.out | apply below_alloc | apply pw_below_drewN | apply below_drew1) | exact HB.out)⟩⟩
   case rest =>
    clear HC5
    try clear c1
    try clear p2
    try clear c4
    try clear c7
    try clear c7b0
    try clear c7b1
    try clear c8
    try clear c8b0
    try clear c8b1
    try clear c10
    obtain ⟨kq, x34_4, rfl, HA, HJ4, HB⟩ := hcut
    cases kq with
    | zero => exact absurd HA.out (by simp [seneschallaw17_PastJoins.j0])
    | succ kj4 =>
     have H := HA.out
     clear HA
     simp only [seneschallaw17_PastJoins.j0] at H
     by_cases c12 : x34_4 = true
     · subst c12
       have H1 : (some true) = some r := by rw [if_pos rfl] at H; exact H
       clear H
       have H := H1
       clear H1
       obtain rfl := Option.some.inj H
       go_wp2
       repeat (go_quiet (fail); try go_wp2)
       go_ret
       exact ⟨by first | rfl | (simp [errW_none, errW_some] <;> rfl) | (simp [*, errW_none, errW_some] <;> rfl), by repeat (first | (with_reducible first | exact HB.out | apply below_alloc | apply pw_below_drewN | apply below_drew1) | exact HB.out)⟩
     · replace c12 := Bool.eq_false_iff.mpr c12
       subst c12
       have H1 : ((some (([] : List (S31)) : List (S31))).bind fun y370 => (if y370.length + l0.length < 1172812402961 then ((some (y370 ++ l0 : List (S31))).bind fun y373 => (if y373.length + l1.length < 1172812402961 then ((past_Read.f (y373 ++ l1) 1).bind fun bt379 => ((past_Read.f l0 1).bind fun bt389 => ((past_Read.f l1 (wrap64 (1 + (l0.length : Int)))).bind fun bt399 => ((some (([] : List (S24)) : List (S24))).bind fun y409 => (if y409.length + bt389.2.1.length < 5864062014805 then (seneschallaw17_PastJoins.l0 kj4 (y409 ++ bt389.2.1) 0 bt379.1 bt379.2.1 bt379.2.2 bt389.1 bt389.2.1 bt389.2.2 bt399.1 bt399.2.1 bt399.2.2) else (none)))))) else (none))) else (none))) = some r := by rw [if_neg (show ¬ (false = true) by decide)] at H; exact H
       clear H
       have H := H1
       clear H1
       obtain ⟨y370, hy370⟩ : ∃ y_ : List (S31), y_ = (([] : List (S31))) := ⟨_, rfl⟩
       replace H : (if y370.length + l0.length < 1172812402961 then ((some (y370 ++ l0 : List (S31))).bind fun y373 => (if y373.length + l1.length < 1172812402961 then ((past_Read.f (y373 ++ l1) 1).bind fun bt379 => ((past_Read.f l0 1).bind fun bt389 => ((past_Read.f l1 (wrap64 (1 + (l0.length : Int)))).bind fun bt399 => ((some (([] : List (S24)) : List (S24))).bind fun y409 => (if y409.length + bt389.2.1.length < 5864062014805 then (seneschallaw17_PastJoins.l0 kj4 (y409 ++ bt389.2.1) 0 bt379.1 bt379.2.1 bt379.2.2 bt389.1 bt389.2.1 bt389.2.2 bt399.1 bt399.2.1 bt399.2.2) else (none)))))) else (none))) else (none)) = some r := by first | (rw [hy370]; with_reducible exact H) | (have H2_ := (Option.bind_some _ _).symm.trans H; rw [hy370]; with_reducible exact H2_) | (have H2_ := (Option.bind_some _ _).symm.trans H; with_reducible exact H2_) | with_reducible exact H | (rw [hy370]; exact H) | exact H
       have Ny370 := Aside0.mk hy370
       clear hy370
       by_cases c13 : y370.length + l0.length < 1172812402961
       · rw [if_pos c13] at H
         have LMc13 := Aside0.mk c13
         clear c13
         obtain ⟨y373, hy373⟩ : ∃ y_ : List (S31), y_ = (y370 ++ l0) := ⟨_, rfl⟩
         replace H : (if y373.length + l1.length < 1172812402961 then ((past_Read.f (y373 ++ l1) 1).bind fun bt379 => ((past_Read.f l0 1).bind fun bt389 => ((past_Read.f l1 (wrap64 (1 + (l0.length : Int)))).bind fun bt399 => ((some (([] : List (S24)) : List (S24))).bind fun y409 => (if y409.length + bt389.2.1.length < 5864062014805 then (seneschallaw17_PastJoins.l0 kj4 (y409 ++ bt389.2.1) 0 bt379.1 bt379.2.1 bt379.2.2 bt389.1 bt389.2.1 bt389.2.2 bt399.1 bt399.2.1 bt399.2.2) else (none)))))) else (none)) = some r := by first | (rw [hy373]; with_reducible exact H) | (have H2_ := (Option.bind_some _ _).symm.trans H; rw [hy373]; with_reducible exact H2_) | (have H2_ := (Option.bind_some _ _).symm.trans H; with_reducible exact H2_) | with_reducible exact H | (rw [hy373]; exact H) | exact H
         have Ny373 := Aside0.mk hy373
         clear hy373
         by_cases c14 : y373.length + l1.length < 1172812402961
         · rw [if_pos c14] at H
           have LMc14 := Aside0.mk c14
           clear c14
           obtain ⟨y376, hy376⟩ : ∃ y_ : List (S31), y_ = (y373 ++ l1) := ⟨_, rfl⟩
           replace H : ((past_Read.f y376 1).bind fun bt379 => ((past_Read.f l0 1).bind fun bt389 => ((past_Read.f l1 (wrap64 (1 + (l0.length : Int)))).bind fun bt399 => ((some (([] : List (S24)) : List (S24))).bind fun y409 => (if y409.length + bt389.2.1.length < 5864062014805 then (seneschallaw17_PastJoins.l0 kj4 (y409 ++ bt389.2.1) 0 bt379.1 bt379.2.1 bt379.2.2 bt389.1 bt389.2.1 bt389.2.2 bt399.1 bt399.2.1 bt399.2.2) else (none)))))) = some r := by first | (rw [hy376]; with_reducible exact H) | (have H2_ := (Option.bind_some _ _).symm.trans H; rw [hy376]; with_reducible exact H2_) | (have H2_ := (Option.bind_some _ _).symm.trans H; with_reducible exact H2_) | with_reducible exact H | (rw [hy376]; exact H) | exact H
           have Ny376 := Aside0.mk hy376
           clear hy376
           replace H := Option.bind_eq_some_iff.mp H
           obtain ⟨⟨t379, t382, t385⟩, A150, H⟩ := H
           replace H : ((past_Read.f l0 1).bind fun bt389 => ((past_Read.f l1 (wrap64 (1 + (l0.length : Int)))).bind fun bt399 => ((some (([] : List (S24)) : List (S24))).bind fun y409 => (if y409.length + bt389.2.1.length < 5864062014805 then (seneschallaw17_PastJoins.l0 kj4 (y409 ++ bt389.2.1) 0 t379 t382 t385 bt389.1 bt389.2.1 bt389.2.2 bt399.1 bt399.2.1 bt399.2.2) else (none))))) = some r := H
           have A15 := Aside0.mk A150
           clear A150
           replace H := Option.bind_eq_some_iff.mp H
           obtain ⟨⟨t389, t392, t395⟩, A160, H⟩ := H
           replace H : ((past_Read.f l1 (wrap64 (1 + (l0.length : Int)))).bind fun bt399 => ((some (([] : List (S24)) : List (S24))).bind fun y409 => (if y409.length + t392.length < 5864062014805 then (seneschallaw17_PastJoins.l0 kj4 (y409 ++ t392) 0 t379 t382 t385 t389 t392 t395 bt399.1 bt399.2.1 bt399.2.2) else (none)))) = some r := H
           have A16 := Aside0.mk A160
           clear A160
           replace H := Option.bind_eq_some_iff.mp H
           obtain ⟨⟨t399, t402, t405⟩, A170, H⟩ := H
           replace H : ((some (([] : List (S24)) : List (S24))).bind fun y409 => (if y409.length + t392.length < 5864062014805 then (seneschallaw17_PastJoins.l0 kj4 (y409 ++ t392) 0 t379 t382 t385 t389 t392 t395 t399 t402 t405) else (none))) = some r := H
           have A17 := Aside0.mk A170
           clear A170
           obtain ⟨y409, hy409⟩ : ∃ y_ : List (S24), y_ = (([] : List (S24))) := ⟨_, rfl⟩
           replace H : (if y409.length + t392.length < 5864062014805 then (seneschallaw17_PastJoins.l0 kj4 (y409 ++ t392) 0 t379 t382 t385 t389 t392 t395 t399 t402 t405) else (none)) = some r := by first | (rw [hy409]; with_reducible exact H) | (have H2_ := (Option.bind_some _ _).symm.trans H; rw [hy409]; with_reducible exact H2_) | (have H2_ := (Option.bind_some _ _).symm.trans H; with_reducible exact H2_) | with_reducible exact H | (rw [hy409]; exact H) | exact H
           have Ny409 := Aside0.mk hy409
           clear hy409
           by_cases c18 : y409.length + t392.length < 5864062014805
           · rw [if_pos c18] at H
             have LMc18 := Aside0.mk c18
             clear c18
             obtain ⟨y412, hy412⟩ : ∃ y_ : List (S24), y_ = (y409 ++ t392) := ⟨_, rfl⟩
             replace H : (seneschallaw17_PastJoins.l0 kj4 y412 0 t379 t382 t385 t389 t392 t395 t399 t402 t405) = some r := by first | (rw [hy412]; with_reducible exact H) | (have H2_ := (Option.bind_some _ _).symm.trans H; rw [hy412]; with_reducible exact H2_) | (have H2_ := (Option.bind_some _ _).symm.trans H; with_reducible exact H2_) | with_reducible exact H | (rw [hy412]; exact H) | exact H
             have Ny412 := Aside0.mk hy412
             clear hy412
             have H' := Aside0.mk H
             clear H
             go_wp2_with (first | ((with_reducible refine gate_dst (N := 35) rfl ?_); (try (refine gate_guard (by rfl) ?_; dsimp only)); refine Kd.R_lit k31 _ 31 ?hg (N := 35) ?hd (xs := ([] : List (S31))) (inner := []) (ok := fun _ => True) (okp := fun _ => True) ?hr ?hp (fun _ hk => hk) trivial (Below.refl _ _) (Nat.le_refl _) (by simp) ?_; (case hd => rfl); (case hg => rfl); (case hr => first | (go_simp; done) | (go_simp; rfl)); (case hp => exact (Reps.none _ _)); intro v371 w19 ho20 hb hg_ hnew_; clear hg_ hnew_; (first | rw [← Ny370.out] at ho20 | (simp only [Int.reduceToNat] at ho20; rw [← Ny370.out] at ho20)); have n0_ := Aside0.mk (Kd.R_lower ho20 (below_size (by repeat (first | (with_reducible first | exact HB.out | apply below_alloc | apply pw_below_drewN | apply below_drew1) | exact HB.out)))); have n1_ := Aside0.mk (below_step (by repeat (first | (with_reducible first | exact HB.out | apply below_alloc | apply pw_below_drewN | apply below_drew1) | exact HB.out)) hb); clear HB; have HO372 := n0_; have HB := n1_; clear n0_ n1_; clear hb ho20) | ((with_reducible refine gate_builtin (b := .append) (xs := #[.tmp 35, .tmp 36]) rfl ?_); (try (refine gate_guard (by rfl) ?_; dsimp only)); at_builtin; refine Kd.R_append_rows k31 (w0 := w) w.heap.size rfl (.tmp 35) (.tmp 36) 22 31 (.agg #[(.int .i64 0), (.int .i64 0), (.int .i64 0), (.int .i64 0), (.int .i64 0), (.int .i64 0), (.int .i64 0), (.int .i64 0), (.bool false), (.string ⟨#[]⟩), (.bool false), (.string ⟨#[]⟩), (.int .i64 0)]) 120 rfl Try.underlying22 info31 rfl (by decide) (by omega) v371 y370 l0 _ _ _ (fun _ => True) (fun _ => False) rfl rfl ?aO ?aR (fun _ _ h => h) (fun _ h => h.elim) ?aF ?aB ?aS ?aL ?_; (case aR => repeat (first | exact (Kd.C_below HR0.out HB.out) | (with_reducible refine Kd.C_alloc ?_ _) | (with_reducible refine Kd.C_drewN ?_ _) | (with_reducible refine Kd.C_drew ?_))); (case aB => exact (by repeat (first | (with_reducible first | exact HB.out | apply below_alloc | apply pw_below_drewN | apply below_drew1) | exact HB.out))); (case aF => exact (fun _ _ => trivial)); (case aO => exact (by (with_reducible repeat (first | apply Kd.R_alloc | apply Kd.R_drewN | apply Kd.R_drew)); exact HO372.out)); (case aS => exact (below_size (by repeat (first | (with_reducible first | exact HB.out | apply below_alloc | apply pw_below_drewN | apply below_drew1) | exact HB.out)))); (case aL => have := LMc13.out; omega); intro v374 w21 ho hb hg hat; rw [← Ny373.out] at ho; have n0_ := Aside0.mk (hb); have n1_ := Aside0.mk (ho); clear HB; clear HO372; have HB := n0_; have HO375 := n1_; clear n0_ n1_; clear ho hb hg hat) | ((with_reducible refine gate_builtin (b := .append) (xs := #[.tmp 37, .tmp 38]) rfl ?_); (try (refine gate_guard (by rfl) ?_; dsimp only)); at_builtin; refine Kd.R_append_rows k31 (w0 := w) w.heap.size rfl (.tmp 37) (.tmp 38) 22 31 (.agg #[(.int .i64 0), (.int .i64 0), (.int .i64 0), (.int .i64 0), (.int .i64 0), (.int .i64 0), (.int .i64 0), (.int .i64 0), (.bool false), (.string ⟨#[]⟩), (.bool false), (.string ⟨#[]⟩), (.int .i64 0)]) 120 rfl Try.underlying22 info31 rfl (by decide) (by omega) v374 y373 l1 _ _ _ (fun _ => True) (fun _ => False) rfl rfl ?aO ?aR (fun _ _ h => h) (fun _ h => h.elim) ?aF ?aB ?aS ?aL ?_; (case aR => repeat (first | exact (Kd.C_below HR1.out HB.out) | (with_reducible refine Kd.C_alloc ?_ _) | (with_reducible refine Kd.C_drewN ?_ _) | (with_reducible refine Kd.C_drew ?_))); (case aB => exact (by repeat (first | (with_reducible first | exact HB.out | apply below_alloc | apply pw_below_drewN | apply below_drew1) | exact HB.out))); (case aF => exact (fun _ _ => trivial)); (case aO => exact (by (with_reducible repeat (first | apply Kd.R_alloc | apply Kd.R_drewN | apply Kd.R_drew)); exact HO375.out)); (case aS => exact (below_size (by repeat (first | (with_reducible first | exact HB.out | apply below_alloc | apply pw_below_drewN | apply below_drew1) | exact HB.out)))); (case aL => have := LMc14.out; omega); intro v377 w22 ho hb hg hat; rw [← Ny376.out] at ho; have n0_ := Aside0.mk (hb); have n1_ := Aside0.mk (ho); clear HB; clear HO375; have HB := n0_; have HO378 := n1_; clear n0_ n1_; clear ho hb hg hat; obtain ⟨Ao23, co23, eo23⟩ := Kd.R_slice HO378.out; subst eo23) | (go_at_call 13; (with_reducible refine (past_Read.calls _ _ y376 1 t379 t382 t385 _ ?side1 ?side2 A15.out).mono ?_); (case side1 => repeat (first | exact (Kd.R_reads' HO378.out).2.2 | (with_reducible refine Kd.C_alloc ?_ _) | (with_reducible refine Kd.C_drewN ?_ _) | (with_reducible refine Kd.C_drew ?_))); (case side2 => exact (Kd.R_reads' HO378.out).2.1); rintro e w24 ⟨v380, v383, v386, rfl, ho0, ho1, ho2, hb⟩; have n0_ := Aside0.mk (Kd.R_below (by (with_reducible repeat (first | apply Kd.R_alloc | apply Kd.R_drewN | apply Kd.R_drew)); exact HO378.out) hb); have n1_ := Aside0.mk (Kd.R_lower ho0 (below_size (by repeat (first | (with_reducible first | exact HB.out | apply below_alloc | apply pw_below_drewN | apply below_drew1) | exact HB.out)))); have n2_ := Aside0.mk (Kd.R_lower ho1 (below_size (by repeat (first | (with_reducible first | exact HB.out | apply below_alloc | apply pw_below_drewN | apply below_drew1) | exact HB.out)))); have n3_ := Aside0.mk (Kd.R_lower ho2 (below_size (by repeat (first | (with_reducible first | exact HB.out | apply below_alloc | apply pw_below_drewN | apply below_drew1) | exact HB.out)))); have n4_ := Aside0.mk (below_step (by repeat (first | (with_reducible first | exact HB.out | apply below_alloc | apply pw_below_drewN | apply below_drew1) | exact HB.out)) hb); clear HO378; clear HB; have HO378 := n0_; have HO381 := n1_; have HO384 := n2_; have HO387 := n3_; have HB := n4_; clear n0_ n1_ n2_ n3_ n4_; (try clear hb); (try clear hb2); (try clear hk); (try clear hi); (try clear ho0); (try clear ho1); (try clear ho2)) | ((with_reducible refine gate_dst (N := 5) rfl ?_); (try (refine gate_guard (by rfl) ?_; dsimp only)); refine box_event ?hg (N := 5) ?hd (cs := #[.slice none 0 0, .slice none 0 0, .slice none 0 0]) (t := 37) ?hr ?_; (case hd => rfl); (case hg => rfl); (case hr => first | (go_simp; done) | (go_simp; rfl)); intro gb388 hg w25 hbox hb; have n0_ := Aside0.mk (Kd.R_below (by (with_reducible repeat (first | apply Kd.R_alloc | apply Kd.R_drewN | apply Kd.R_drew)); exact HO378.out) hb); have n1_ := Aside0.mk (Kd.R_below (by (with_reducible repeat (first | apply Kd.R_alloc | apply Kd.R_drewN | apply Kd.R_drew)); exact HO381.out) hb); have n2_ := Aside0.mk (Kd.R_below (by (with_reducible repeat (first | apply Kd.R_alloc | apply Kd.R_drewN | apply Kd.R_drew)); exact HO384.out) hb); have n3_ := Aside0.mk (Kd.R_below (by (with_reducible repeat (first | apply Kd.R_alloc | apply Kd.R_drewN | apply Kd.R_drew)); exact HO387.out) hb); have n4_ := Aside0.mk (below_step (by repeat (first | (with_reducible first | exact HB.out | apply below_alloc | apply pw_below_drewN | apply below_drew1) | exact HB.out)) hb); have n5_ := Aside0.mk (hbox); have n6_ := Aside0.mk ((by rw [hg]; exact (below_size (by repeat (first | (with_reducible first | exact HB.out | apply below_alloc | apply pw_below_drewN | apply below_drew1) | exact HB.out))) : w.heap.size ≤ gb388)); have n7_ := Aside0.mk ((by rw [hg]; exact (below_size (by repeat (first | (with_reducible first | exact HB.out | apply below_alloc | apply pw_below_drewN | apply below_drew1) | exact HB.out))) : w.heap.size ≤ gb388)); clear HO378; clear HO381; clear HO384; clear HO387; clear HB; have HO378 := n0_; have HO381 := n1_; have HO384 := n2_; have HO387 := n3_; have HB := n4_; have BK388 := n5_; have GW388 := n6_; have GE388 := n7_; clear n0_ n1_ n2_ n3_ n4_ n5_ n6_ n7_; clear hb hbox hg; obtain ⟨Ao26, co26, eo26⟩ := Kd.R_slice HO381.out; subst eo26; have hcz27_0 : w25.cell? ⟨gb388, 0, none⟩ = some (.slice none 0 0) := (blk_cell BK388.out 0).trans rfl; have hcz27_1 : w25.cell? ⟨gb388, 1, none⟩ = some (.slice none 0 0) := (blk_cell BK388.out 1).trans rfl; have hcz27_2 : w25.cell? ⟨gb388, 2, none⟩ = some (.slice none 0 0) := (blk_cell BK388.out 2).trans rfl; have hfz27_0 := blk_frozen BK388.out 0; have hfz27_1 := blk_frozen BK388.out 1; have hfz27_2 := blk_frozen BK388.out 2; obtain ⟨Ao28, co28, eo28⟩ := Kd.R_slice HO384.out; subst eo28; obtain ⟨Ao29, co29, eo29⟩ := Kd.R_slice HO387.out; subst eo29) | (go_at_call 13; (with_reducible refine (past_Read.calls _ _ l0 1 t389 t392 t395 _ ?side1 ?side2 A16.out).mono ?_); (case side1 => exact Kd.C_below HR0.out (by repeat (first | (with_reducible first | exact HB.out | apply below_alloc | apply pw_below_drewN | apply below_drew1 | refine below_set ?_ GE388.out) | exact HB.out))); (case side2 => exact HC0.out); rintro e w30 ⟨v390, v393, v396, rfl, ho0, ho1, ho2, hb⟩; have n0_ := Aside0.mk (Kd.R_below (by (with_reducible repeat (first | apply Kd.R_alloc | apply Kd.R_drewN | apply Kd.R_drew)); exact (Kd.R_mono (Kd.R_far (p := ⟨gb388, 2, none⟩) (Kd.R_far (p := ⟨gb388, 1, none⟩) (Kd.R_far (p := ⟨gb388, 0, none⟩) (Kd.R_types HO378.out BK388.out (by decide)) (fun _ hk => hk.2) (.slice Ao26 t379.length co26)) (fun _ hk => hk.2) (.slice Ao28 t382.length co28)) (fun _ hk => hk.2) (.slice Ao29 t385.length co29)) (fun _ h_ => h_.1))) hb); have n1_ := Aside0.mk (Kd.R_elder' (by (with_reducible repeat (first | apply Kd.R_alloc | apply Kd.R_drewN | apply Kd.R_drew)); exact (Kd.R_mono (Kd.R_far (p := ⟨gb388, 2, none⟩) (Kd.R_far (p := ⟨gb388, 1, none⟩) (Kd.R_far (p := ⟨gb388, 0, none⟩) (Kd.R_types HO381.out BK388.out (by decide)) (fun _ hk => hk.2) (.slice Ao26 t379.length co26)) (fun _ hk => hk.2) (.slice Ao28 t382.length co28)) (fun _ hk => hk.2) (.slice Ao29 t385.length co29)) (fun _ h_ => h_.1))) (Kd.R_base ho0) hb); have n2_ := Aside0.mk (Kd.R_elder' (by (with_reducible repeat (first | apply Kd.R_alloc | apply Kd.R_drewN | apply Kd.R_drew)); exact (Kd.R_mono (Kd.R_far (p := ⟨gb388, 2, none⟩) (Kd.R_far (p := ⟨gb388, 1, none⟩) (Kd.R_far (p := ⟨gb388, 0, none⟩) (Kd.R_types HO384.out BK388.out (by decide)) (fun _ hk => hk.2) (.slice Ao26 t379.length co26)) (fun _ hk => hk.2) (.slice Ao28 t382.length co28)) (fun _ hk => hk.2) (.slice Ao29 t385.length co29)) (fun _ h_ => h_.1))) (Kd.R_base ho1) hb); have n3_ := Aside0.mk (Kd.R_elder' (by (with_reducible repeat (first | apply Kd.R_alloc | apply Kd.R_drewN | apply Kd.R_drew)); exact (Kd.R_mono (Kd.R_far (p := ⟨gb388, 2, none⟩) (Kd.R_far (p := ⟨gb388, 1, none⟩) (Kd.R_far (p := ⟨gb388, 0, none⟩) (Kd.R_types HO387.out BK388.out (by decide)) (fun _ hk => hk.2) (.slice Ao26 t379.length co26)) (fun _ hk => hk.2) (.slice Ao28 t382.length co28)) (fun _ hk => hk.2) (.slice Ao29 t385.length co29)) (fun _ h_ => h_.1))) (Kd.R_base ho2) hb); have n4_ := Aside0.mk (Kd.R_lower (Kd.R_new' ho0 (Kd.R_lt (by (with_reducible repeat (first | apply Kd.R_alloc | apply Kd.R_drewN | apply Kd.R_drew)); exact (Kd.R_mono (Kd.R_far (p := ⟨gb388, 2, none⟩) (Kd.R_far (p := ⟨gb388, 1, none⟩) (Kd.R_far (p := ⟨gb388, 0, none⟩) (Kd.R_types HO381.out BK388.out (by decide)) (fun _ hk => hk.2) (.slice Ao26 t379.length co26)) (fun _ hk => hk.2) (.slice Ao28 t382.length co28)) (fun _ hk => hk.2) (.slice Ao29 t385.length co29)) (fun _ h_ => h_.1))))) (below_size (by repeat (first | (with_reducible first | exact HB.out | apply below_alloc | apply pw_below_drewN | apply below_drew1 | refine below_set ?_ GE388.out) | exact HB.out)))); have n5_ := Aside0.mk (Kd.R_lower (Kd.R_new' ho1 (Kd.R_lt (by (with_reducible repeat (first | apply Kd.R_alloc | apply Kd.R_drewN | apply Kd.R_drew)); exact (Kd.R_mono (Kd.R_far (p := ⟨gb388, 2, none⟩) (Kd.R_far (p := ⟨gb388, 1, none⟩) (Kd.R_far (p := ⟨gb388, 0, none⟩) (Kd.R_types HO384.out BK388.out (by decide)) (fun _ hk => hk.2) (.slice Ao26 t379.length co26)) (fun _ hk => hk.2) (.slice Ao28 t382.length co28)) (fun _ hk => hk.2) (.slice Ao29 t385.length co29)) (fun _ h_ => h_.1))))) (below_size (by repeat (first | (with_reducible first | exact HB.out | apply below_alloc | apply pw_below_drewN | apply below_drew1 | refine below_set ?_ GE388.out) | exact HB.out)))); have n6_ := Aside0.mk (Kd.R_lower (Kd.R_new' ho2 (Kd.R_lt (by (with_reducible repeat (first | apply Kd.R_alloc | apply Kd.R_drewN | apply Kd.R_drew)); exact (Kd.R_mono (Kd.R_far (p := ⟨gb388, 2, none⟩) (Kd.R_far (p := ⟨gb388, 1, none⟩) (Kd.R_far (p := ⟨gb388, 0, none⟩) (Kd.R_types HO387.out BK388.out (by decide)) (fun _ hk => hk.2) (.slice Ao26 t379.length co26)) (fun _ hk => hk.2) (.slice Ao28 t382.length co28)) (fun _ hk => hk.2) (.slice Ao29 t385.length co29)) (fun _ h_ => h_.1))))) (below_size (by repeat (first | (with_reducible first | exact HB.out | apply below_alloc | apply pw_below_drewN | apply below_drew1 | refine below_set ?_ GE388.out) | exact HB.out)))); have n7_ := Aside0.mk (blk_below (g := gb388) (o := .cells #[.slice Ao26 t379.length co26, .slice Ao28 t382.length co28, .slice Ao29 t385.length co29] 37 (0, 0)) (by (with_reducible repeat (first | refine blk_drewN ?_ _ | refine blk_drew ?_ | refine blk_alloc ?_ _)); refine blk_put (cs := #[.slice Ao26 t379.length co26, .slice Ao28 t382.length co28, .slice none 0 0]) ?_ 2 _ rfl; (with_reducible repeat (first | refine blk_drewN ?_ _ | refine blk_drew ?_ | refine blk_alloc ?_ _)); refine blk_put (cs := #[.slice Ao26 t379.length co26, .slice none 0 0, .slice none 0 0]) ?_ 1 _ rfl; (with_reducible repeat (first | refine blk_drewN ?_ _ | refine blk_drew ?_ | refine blk_alloc ?_ _)); refine blk_put (cs := #[.slice none 0 0, .slice none 0 0, .slice none 0 0]) ?_ 0 _ rfl; (with_reducible repeat (first | refine blk_drewN ?_ _ | refine blk_drew ?_ | refine blk_alloc ?_ _)); exact BK388.out) hb); have n8_ := Aside0.mk (below_step (by repeat (first | (with_reducible first | exact HB.out | apply below_alloc | apply pw_below_drewN | apply below_drew1 | refine below_set ?_ GE388.out) | exact HB.out)) hb); clear HO378; clear HO381; clear HO384; clear HO387; clear BK388; clear HB; have HO378 := n0_; have HO381 := n1_; have HO384 := n2_; have HO387 := n3_; have HO391 := n4_; have HO394 := n5_; have HO397 := n6_; have BK388 := n7_; have HB := n8_; clear n0_ n1_ n2_ n3_ n4_ n5_ n6_ n7_ n8_; (try clear hb); (try clear hb2); (try clear hk); (try clear hi); (try clear ho0); (try clear ho1); (try clear ho2)) | ((with_reducible refine gate_dst (N := 6) rfl ?_); (try (refine gate_guard (by rfl) ?_; dsimp only)); refine box_event ?hg (N := 6) ?hd (cs := #[.slice none 0 0, .slice none 0 0, .slice none 0 0]) (t := 37) ?hr ?_; (case hd => rfl); (case hg => rfl); (case hr => first | (go_simp; done) | (go_simp; rfl)); intro gb398 hg w31 hbox hb; have n0_ := Aside0.mk (Kd.R_below (by (with_reducible repeat (first | apply Kd.R_alloc | apply Kd.R_drewN | apply Kd.R_drew)); exact HO378.out) hb); have n1_ := Aside0.mk (Kd.R_below (by (with_reducible repeat (first | apply Kd.R_alloc | apply Kd.R_drewN | apply Kd.R_drew)); exact HO381.out) hb); have n2_ := Aside0.mk (Kd.R_below (by (with_reducible repeat (first | apply Kd.R_alloc | apply Kd.R_drewN | apply Kd.R_drew)); exact HO384.out) hb); have n3_ := Aside0.mk (Kd.R_below (by (with_reducible repeat (first | apply Kd.R_alloc | apply Kd.R_drewN | apply Kd.R_drew)); exact HO387.out) hb); have n4_ := Aside0.mk (Kd.R_below (by (with_reducible repeat (first | apply Kd.R_alloc | apply Kd.R_drewN | apply Kd.R_drew)); exact HO391.out) hb); have n5_ := Aside0.mk (Kd.R_below (by (with_reducible repeat (first | apply Kd.R_alloc | apply Kd.R_drewN | apply Kd.R_drew)); exact HO394.out) hb); have n6_ := Aside0.mk (Kd.R_below (by (with_reducible repeat (first | apply Kd.R_alloc | apply Kd.R_drewN | apply Kd.R_drew)); exact HO397.out) hb); have n7_ := Aside0.mk (blk_below (g := gb388) (o := .cells #[.slice Ao26 t379.length co26, .slice Ao28 t382.length co28, .slice Ao29 t385.length co29] 37 (0, 0)) (by (with_reducible repeat (first | refine blk_drewN ?_ _ | refine blk_drew ?_ | refine blk_alloc ?_ _)); exact BK388.out) hb); have n8_ := Aside0.mk (below_step (by repeat (first | (with_reducible first | exact HB.out | apply below_alloc | apply pw_below_drewN | apply below_drew1 | refine below_set ?_ GE388.out) | exact HB.out)) hb); have n9_ := Aside0.mk (hbox); have n10_ := Aside0.mk ((by rw [hg]; exact (below_size (by repeat (first | (with_reducible first | exact HB.out | apply below_alloc | apply pw_below_drewN | apply below_drew1 | refine below_set ?_ GE388.out) | exact HB.out))) : w.heap.size ≤ gb398)); have n11_ := Aside0.mk ((by rw [hg]; exact (below_size (by repeat (first | (with_reducible first | exact HB.out | apply below_alloc | apply pw_below_drewN | apply below_drew1 | refine below_set ?_ GE388.out) | exact HB.out))) : w.heap.size ≤ gb398)); have n12_ := Aside0.mk ((by rw [hg]; exact Nat.ne_of_lt (blk_lt (g := gb388) (o := .cells #[.slice Ao26 t379.length co26, .slice Ao28 t382.length co28, .slice Ao29 t385.length co29] 37 (0, 0)) (by (with_reducible repeat (first | refine blk_drewN ?_ _ | refine blk_drew ?_ | refine blk_alloc ?_ _)); exact BK388.out)) : gb388 ≠ gb398)); have n13_ := Aside0.mk ((by rw [hg]; exact Nat.ne_of_gt (blk_lt (g := gb388) (o := .cells #[.slice Ao26 t379.length co26, .slice Ao28 t382.length co28, .slice Ao29 t385.length co29] 37 (0, 0)) (by (with_reducible repeat (first | refine blk_drewN ?_ _ | refine blk_drew ?_ | refine blk_alloc ?_ _)); exact BK388.out)) : gb398 ≠ gb388)); clear HO378; clear HO381; clear HO384; clear HO387; clear HO391; clear HO394; clear HO397; clear BK388; clear HB; have HO378 := n0_; have HO381 := n1_; have HO384 := n2_; have HO387 := n3_; have HO391 := n4_; have HO394 := n5_; have HO397 := n6_; have BK388 := n7_; have HB := n8_; have BK398 := n9_; have GW398 := n10_; have GE398 := n11_; have NB388_398 := n12_; have NB398_388 := n13_; clear n0_ n1_ n2_ n3_ n4_ n5_ n6_ n7_ n8_ n9_ n10_ n11_ n12_ n13_; clear hb hbox hg; obtain ⟨Ao32, co32, eo32⟩ := Kd.R_slice HO391.out; subst eo32; have hnb33 := NB398_388.out; have hnc33 := NB388_398.out; have hcz34_0 : w31.cell? ⟨gb398, 0, none⟩ = some (.slice none 0 0) := (blk_cell BK398.out 0).trans rfl; have hcz34_1 : w31.cell? ⟨gb398, 1, none⟩ = some (.slice none 0 0) := (blk_cell BK398.out 1).trans rfl; have hcz34_2 : w31.cell? ⟨gb398, 2, none⟩ = some (.slice none 0 0) := (blk_cell BK398.out 2).trans rfl; have hfz34_0 := blk_frozen BK398.out 0; have hfz34_1 := blk_frozen BK398.out 1; have hfz34_2 := blk_frozen BK398.out 2; obtain ⟨Ao35, co35, eo35⟩ := Kd.R_slice HO394.out; subst eo35; obtain ⟨Ao36, co36, eo36⟩ := Kd.R_slice HO397.out; subst eo36) | (go_at_call 13; (with_reducible refine (past_Read.calls _ _ l1 (wrap64 (1 + (l0.length : Int))) t399 t402 t405 _ ?side1 ?side2 A17.out).mono ?_); (case side1 => exact Kd.C_below HR1.out (by repeat (first | (with_reducible first | exact HB.out | apply below_alloc | apply pw_below_drewN | apply below_drew1 | refine below_set ?_ GE388.out | refine below_set ?_ GE398.out) | exact HB.out))); (case side2 => exact HC1.out); rintro e w37 ⟨v400, v403, v406, rfl, ho0, ho1, ho2, hb⟩; have n0_ := Aside0.mk (Kd.R_below (by (with_reducible repeat (first | apply Kd.R_alloc | apply Kd.R_drewN | apply Kd.R_drew)); exact (Kd.R_mono (Kd.R_far (p := ⟨gb398, 2, none⟩) (Kd.R_far (p := ⟨gb398, 1, none⟩) (Kd.R_far (p := ⟨gb398, 0, none⟩) (Kd.R_types HO378.out BK398.out (by decide)) (fun _ hk => hk.2) (.slice Ao32 t389.length co32)) (fun _ hk => hk.2) (.slice Ao35 t392.length co35)) (fun _ hk => hk.2) (.slice Ao36 t395.length co36)) (fun _ h_ => h_.1))) hb); have n1_ := Aside0.mk (Kd.R_elder' (by (with_reducible repeat (first | apply Kd.R_alloc | apply Kd.R_drewN | apply Kd.R_drew)); exact (Kd.R_mono (Kd.R_far (p := ⟨gb398, 2, none⟩) (Kd.R_far (p := ⟨gb398, 1, none⟩) (Kd.R_far (p := ⟨gb398, 0, none⟩) (Kd.R_types HO381.out BK398.out (by decide)) (fun _ hk => hk.2) (.slice Ao32 t389.length co32)) (fun _ hk => hk.2) (.slice Ao35 t392.length co35)) (fun _ hk => hk.2) (.slice Ao36 t395.length co36)) (fun _ h_ => h_.1))) (Kd.R_base ho0) hb); have n2_ := Aside0.mk (Kd.R_elder' (by (with_reducible repeat (first | apply Kd.R_alloc | apply Kd.R_drewN | apply Kd.R_drew)); exact (Kd.R_mono (Kd.R_far (p := ⟨gb398, 2, none⟩) (Kd.R_far (p := ⟨gb398, 1, none⟩) (Kd.R_far (p := ⟨gb398, 0, none⟩) (Kd.R_types HO384.out BK398.out (by decide)) (fun _ hk => hk.2) (.slice Ao32 t389.length co32)) (fun _ hk => hk.2) (.slice Ao35 t392.length co35)) (fun _ hk => hk.2) (.slice Ao36 t395.length co36)) (fun _ h_ => h_.1))) (Kd.R_base ho1) hb); have n3_ := Aside0.mk (Kd.R_elder' (by (with_reducible repeat (first | apply Kd.R_alloc | apply Kd.R_drewN | apply Kd.R_drew)); exact (Kd.R_mono (Kd.R_far (p := ⟨gb398, 2, none⟩) (Kd.R_far (p := ⟨gb398, 1, none⟩) (Kd.R_far (p := ⟨gb398, 0, none⟩) (Kd.R_types HO387.out BK398.out (by decide)) (fun _ hk => hk.2) (.slice Ao32 t389.length co32)) (fun _ hk => hk.2) (.slice Ao35 t392.length co35)) (fun _ hk => hk.2) (.slice Ao36 t395.length co36)) (fun _ h_ => h_.1))) (Kd.R_base ho2) hb); have n4_ := Aside0.mk (Kd.R_elder' (by (with_reducible repeat (first | apply Kd.R_alloc | apply Kd.R_drewN | apply Kd.R_drew)); exact (Kd.R_mono (Kd.R_far (p := ⟨gb398, 2, none⟩) (Kd.R_far (p := ⟨gb398, 1, none⟩) (Kd.R_far (p := ⟨gb398, 0, none⟩) (Kd.R_types HO391.out BK398.out (by decide)) (fun _ hk => hk.2) (.slice Ao32 t389.length co32)) (fun _ hk => hk.2) (.slice Ao35 t392.length co35)) (fun _ hk => hk.2) (.slice Ao36 t395.length co36)) (fun _ h_ => h_.1))) (Kd.R_base ho0) hb); have n5_ := Aside0.mk (Kd.R_elder' (by (with_reducible repeat (first | apply Kd.R_alloc | apply Kd.R_drewN | apply Kd.R_drew)); exact (Kd.R_mono (Kd.R_far (p := ⟨gb398, 2, none⟩) (Kd.R_far (p := ⟨gb398, 1, none⟩) (Kd.R_far (p := ⟨gb398, 0, none⟩) (Kd.R_types HO394.out BK398.out (by decide)) (fun _ hk => hk.2) (.slice Ao32 t389.length co32)) (fun _ hk => hk.2) (.slice Ao35 t392.length co35)) (fun _ hk => hk.2) (.slice Ao36 t395.length co36)) (fun _ h_ => h_.1))) (Kd.R_base ho1) hb); have n6_ := Aside0.mk (Kd.R_elder' (by (with_reducible repeat (first | apply Kd.R_alloc | apply Kd.R_drewN | apply Kd.R_drew)); exact (Kd.R_mono (Kd.R_far (p := ⟨gb398, 2, none⟩) (Kd.R_far (p := ⟨gb398, 1, none⟩) (Kd.R_far (p := ⟨gb398, 0, none⟩) (Kd.R_types HO397.out BK398.out (by decide)) (fun _ hk => hk.2) (.slice Ao32 t389.length co32)) (fun _ hk => hk.2) (.slice Ao35 t392.length co35)) (fun _ hk => hk.2) (.slice Ao36 t395.length co36)) (fun _ h_ => h_.1))) (Kd.R_base ho2) hb); have n7_ := Aside0.mk (Kd.R_lower (Kd.R_new' (Kd.R_new' ho0 (Kd.R_lt (by (with_reducible repeat (first | apply Kd.R_alloc | apply Kd.R_drewN | apply Kd.R_drew)); exact (Kd.R_mono (Kd.R_far (p := ⟨gb398, 2, none⟩) (Kd.R_far (p := ⟨gb398, 1, none⟩) (Kd.R_far (p := ⟨gb398, 0, none⟩) (Kd.R_types HO381.out BK398.out (by decide)) (fun _ hk => hk.2) (.slice Ao32 t389.length co32)) (fun _ hk => hk.2) (.slice Ao35 t392.length co35)) (fun _ hk => hk.2) (.slice Ao36 t395.length co36)) (fun _ h_ => h_.1))))) (Kd.R_lt (by (with_reducible repeat (first | apply Kd.R_alloc | apply Kd.R_drewN | apply Kd.R_drew)); exact (Kd.R_mono (Kd.R_far (p := ⟨gb398, 2, none⟩) (Kd.R_far (p := ⟨gb398, 1, none⟩) (Kd.R_far (p := ⟨gb398, 0, none⟩) (Kd.R_types HO391.out BK398.out (by decide)) (fun _ hk => hk.2) (.slice Ao32 t389.length co32)) (fun _ hk => hk.2) (.slice Ao35 t392.length co35)) (fun _ hk => hk.2) (.slice Ao36 t395.length co36)) (fun _ h_ => h_.1))))) (below_size (by repeat (first | (with_reducible first | exact HB.out | apply below_alloc | apply pw_below_drewN | apply below_drew1 | refine below_set ?_ GE388.out | refine below_set ?_ GE398.out) | exact HB.out)))); have n8_ := Aside0.mk (Kd.R_lower (Kd.R_new' (Kd.R_new' ho1 (Kd.R_lt (by (with_reducible repeat (first | apply Kd.R_alloc | apply Kd.R_drewN | apply Kd.R_drew)); exact (Kd.R_mono (Kd.R_far (p := ⟨gb398, 2, none⟩) (Kd.R_far (p := ⟨gb398, 1, none⟩) (Kd.R_far (p := ⟨gb398, 0, none⟩) (Kd.R_types HO384.out BK398.out (by decide)) (fun _ hk => hk.2) (.slice Ao32 t389.length co32)) (fun _ hk => hk.2) (.slice Ao35 t392.length co35)) (fun _ hk => hk.2) (.slice Ao36 t395.length co36)) (fun _ h_ => h_.1))))) (Kd.R_lt (by (with_reducible repeat (first | apply Kd.R_alloc | apply Kd.R_drewN | apply Kd.R_drew)); exact (Kd.R_mono (Kd.R_far (p := ⟨gb398, 2, none⟩) (Kd.R_far (p := ⟨gb398, 1, none⟩) (Kd.R_far (p := ⟨gb398, 0, none⟩) (Kd.R_types HO394.out BK398.out (by decide)) (fun _ hk => hk.2) (.slice Ao32 t389.length co32)) (fun _ hk => hk.2) (.slice Ao35 t392.length co35)) (fun _ hk => hk.2) (.slice Ao36 t395.length co36)) (fun _ h_ => h_.1))))) (below_size (by repeat (first | (with_reducible first | exact HB.out | apply below_alloc | apply pw_below_drewN | apply below_drew1 | refine below_set ?_ GE388.out | refine below_set ?_ GE398.out) | exact HB.out)))); have n9_ := Aside0.mk (Kd.R_lower (Kd.R_new' (Kd.R_new' ho2 (Kd.R_lt (by (with_reducible repeat (first | apply Kd.R_alloc | apply Kd.R_drewN | apply Kd.R_drew)); exact (Kd.R_mono (Kd.R_far (p := ⟨gb398, 2, none⟩) (Kd.R_far (p := ⟨gb398, 1, none⟩) (Kd.R_far (p := ⟨gb398, 0, none⟩) (Kd.R_types HO387.out BK398.out (by decide)) (fun _ hk => hk.2) (.slice Ao32 t389.length co32)) (fun _ hk => hk.2) (.slice Ao35 t392.length co35)) (fun _ hk => hk.2) (.slice Ao36 t395.length co36)) (fun _ h_ => h_.1))))) (Kd.R_lt (by (with_reducible repeat (first | apply Kd.R_alloc | apply Kd.R_drewN | apply Kd.R_drew)); exact (Kd.R_mono (Kd.R_far (p := ⟨gb398, 2, none⟩) (Kd.R_far (p := ⟨gb398, 1, none⟩) (Kd.R_far (p := ⟨gb398, 0, none⟩) (Kd.R_types HO397.out BK398.out (by decide)) (fun _ hk => hk.2) (.slice Ao32 t389.length co32)) (fun _ hk => hk.2) (.slice Ao35 t392.length co35)) (fun _ hk => hk.2) (.slice Ao36 t395.length co36)) (fun _ h_ => h_.1))))) (below_size (by repeat (first | (with_reducible first | exact HB.out | apply below_alloc | apply pw_below_drewN | apply below_drew1 | refine below_set ?_ GE388.out | refine below_set ?_ GE398.out) | exact HB.out)))); have n10_ := Aside0.mk (blk_below (g := gb388) (o := .cells #[.slice Ao26 t379.length co26, .slice Ao28 t382.length co28, .slice Ao29 t385.length co29] 37 (0, 0)) (by (with_reducible repeat (first | refine blk_drewN ?_ _ | refine blk_drew ?_ | refine blk_alloc ?_ _)); refine blk_far ?_ NB388_398.out _; (with_reducible repeat (first | refine blk_drewN ?_ _ | refine blk_drew ?_ | refine blk_alloc ?_ _)); refine blk_far ?_ NB388_398.out _; (with_reducible repeat (first | refine blk_drewN ?_ _ | refine blk_drew ?_ | refine blk_alloc ?_ _)); refine blk_far ?_ NB388_398.out _; (with_reducible repeat (first | refine blk_drewN ?_ _ | refine blk_drew ?_ | refine blk_alloc ?_ _)); exact BK388.out) hb); have n11_ := Aside0.mk (blk_below (g := gb398) (o := .cells #[.slice Ao32 t389.length co32, .slice Ao35 t392.length co35, .slice Ao36 t395.length co36] 37 (0, 0)) (by (with_reducible repeat (first | refine blk_drewN ?_ _ | refine blk_drew ?_ | refine blk_alloc ?_ _)); refine blk_put (cs := #[.slice Ao32 t389.length co32, .slice Ao35 t392.length co35, .slice none 0 0]) ?_ 2 _ rfl; (with_reducible repeat (first | refine blk_drewN ?_ _ | refine blk_drew ?_ | refine blk_alloc ?_ _)); refine blk_put (cs := #[.slice Ao32 t389.length co32, .slice none 0 0, .slice none 0 0]) ?_ 1 _ rfl; (with_reducible repeat (first | refine blk_drewN ?_ _ | refine blk_drew ?_ | refine blk_alloc ?_ _)); refine blk_put (cs := #[.slice none 0 0, .slice none 0 0, .slice none 0 0]) ?_ 0 _ rfl; (with_reducible repeat (first | refine blk_drewN ?_ _ | refine blk_drew ?_ | refine blk_alloc ?_ _)); exact BK398.out) hb); have n12_ := Aside0.mk (below_step (by repeat (first | (with_reducible first | exact HB.out | apply below_alloc | apply pw_below_drewN | apply below_drew1 | refine below_set ?_ GE388.out | refine below_set ?_ GE398.out) | exact HB.out)) hb); clear HO378; clear HO381; clear HO384; clear HO387; clear HO391; clear HO394; clear HO397; clear BK388; clear BK398; clear HB; have HO378 := n0_; have HO381 := n1_; have HO384 := n2_; have HO387 := n3_; have HO391 := n4_; have HO394 := n5_; have HO397 := n6_; have HO401 := n7_; have HO404 := n8_; have HO407 := n9_; have BK388 := n10_; have BK398 := n11_; have HB := n12_; clear n0_ n1_ n2_ n3_ n4_ n5_ n6_ n7_ n8_ n9_ n10_ n11_ n12_; (try clear hb); (try clear hb2); (try clear hk); (try clear hi); (try clear ho0); (try clear ho1); (try clear ho2)) | ((with_reducible refine gate_dst (N := 7) rfl ?_); (try (refine gate_guard (by rfl) ?_; dsimp only)); refine box_event ?hg (N := 7) ?hd (cs := #[.slice none 0 0, .slice none 0 0, .slice none 0 0]) (t := 37) ?hr ?_; (case hd => rfl); (case hg => rfl); (case hr => first | (go_simp; done) | (go_simp; rfl)); intro gb408 hg w38 hbox hb; have n0_ := Aside0.mk (Kd.R_below (by (with_reducible repeat (first | apply Kd.R_alloc | apply Kd.R_drewN | apply Kd.R_drew)); exact HO378.out) hb); have n1_ := Aside0.mk (Kd.R_below (by (with_reducible repeat (first | apply Kd.R_alloc | apply Kd.R_drewN | apply Kd.R_drew)); exact HO381.out) hb); have n2_ := Aside0.mk (Kd.R_below (by (with_reducible repeat (first | apply Kd.R_alloc | apply Kd.R_drewN | apply Kd.R_drew)); exact HO384.out) hb); have n3_ := Aside0.mk (Kd.R_below (by (with_reducible repeat (first | apply Kd.R_alloc | apply Kd.R_drewN | apply Kd.R_drew)); exact HO387.out) hb); have n4_ := Aside0.mk (Kd.R_below (by (with_reducible repeat (first | apply Kd.R_alloc | apply Kd.R_drewN | apply Kd.R_drew)); exact HO391.out) hb); have n5_ := Aside0.mk (Kd.R_below (by (with_reducible repeat (first | apply Kd.R_alloc | apply Kd.R_drewN | apply Kd.R_drew)); exact HO394.out) hb); have n6_ := Aside0.mk (Kd.R_below (by (with_reducible repeat (first | apply Kd.R_alloc | apply Kd.R_drewN | apply Kd.R_drew)); exact HO397.out) hb); have n7_ := Aside0.mk (Kd.R_below (by (with_reducible repeat (first | apply Kd.R_alloc | apply Kd.R_drewN | apply Kd.R_drew)); exact HO401.out) hb); have n8_ := Aside0.mk (Kd.R_below (by (with_reducible repeat (first | apply Kd.R_alloc | apply Kd.R_drewN | apply Kd.R_drew)); exact HO404.out) hb); have n9_ := Aside0.mk (Kd.R_below (by (with_reducible repeat (first | apply Kd.R_alloc | apply Kd.R_drewN | apply Kd.R_drew)); exact HO407.out) hb); have n10_ := Aside0.mk (blk_below (g := gb388) (o := .cells #[.slice Ao26 t379.length co26, .slice Ao28 t382.length co28, .slice Ao29 t385.length co29] 37 (0, 0)) (by (with_reducible repeat (first | refine blk_drewN ?_ _ | refine blk_drew ?_ | refine blk_alloc ?_ _)); exact BK388.out) hb); have n11_ := Aside0.mk (blk_below (g := gb398) (o := .cells #[.slice Ao32 t389.length co32, .slice Ao35 t392.length co35, .slice Ao36 t395.length co36] 37 (0, 0)) (by (with_reducible repeat (first | refine blk_drewN ?_ _ | refine blk_drew ?_ | refine blk_alloc ?_ _)); exact BK398.out) hb); have n12_ := Aside0.mk (below_step (by repeat (first | (with_reducible first | exact HB.out | apply below_alloc | apply pw_below_drewN | apply below_drew1 | refine below_set ?_ GE388.out | refine below_set ?_ GE398.out) | exact HB.out)) hb); have n13_ := Aside0.mk (hbox); have n14_ := Aside0.mk ((by rw [hg]; exact (below_size (by repeat (first | (with_reducible first | exact HB.out | apply below_alloc | apply pw_below_drewN | apply below_drew1 | refine below_set ?_ GE388.out | refine below_set ?_ GE398.out) | exact HB.out))) : w.heap.size ≤ gb408)); have n15_ := Aside0.mk ((by rw [hg]; exact (below_size (by repeat (first | (with_reducible first | exact HB.out | apply below_alloc | apply pw_below_drewN | apply below_drew1 | refine below_set ?_ GE388.out | refine below_set ?_ GE398.out) | exact HB.out))) : w.heap.size ≤ gb408)); have n16_ := Aside0.mk ((by rw [hg]; exact Nat.ne_of_lt (blk_lt (g := gb388) (o := .cells #[.slice Ao26 t379.length co26, .slice Ao28 t382.length co28, .slice Ao29 t385.length co29] 37 (0, 0)) (by (with_reducible repeat (first | refine blk_drewN ?_ _ | refine blk_drew ?_ | refine blk_alloc ?_ _)); exact BK388.out)) : gb388 ≠ gb408)); have n17_ := Aside0.mk ((by rw [hg]; exact Nat.ne_of_gt (blk_lt (g := gb388) (o := .cells #[.slice Ao26 t379.length co26, .slice Ao28 t382.length co28, .slice Ao29 t385.length co29] 37 (0, 0)) (by (with_reducible repeat (first | refine blk_drewN ?_ _ | refine blk_drew ?_ | refine blk_alloc ?_ _)); exact BK388.out)) : gb408 ≠ gb388)); have n18_ := Aside0.mk ((by rw [hg]; exact Nat.ne_of_lt (blk_lt (g := gb398) (o := .cells #[.slice Ao32 t389.length co32, .slice Ao35 t392.length co35, .slice Ao36 t395.length co36] 37 (0, 0)) (by (with_reducible repeat (first | refine blk_drewN ?_ _ | refine blk_drew ?_ | refine blk_alloc ?_ _)); exact BK398.out)) : gb398 ≠ gb408)); have n19_ := Aside0.mk ((by rw [hg]; exact Nat.ne_of_gt (blk_lt (g := gb398) (o := .cells #[.slice Ao32 t389.length co32, .slice Ao35 t392.length co35, .slice Ao36 t395.length co36] 37 (0, 0)) (by (with_reducible repeat (first | refine blk_drewN ?_ _ | refine blk_drew ?_ | refine blk_alloc ?_ _)); exact BK398.out)) : gb408 ≠ gb398)); clear HO378; clear HO381; clear HO384; clear HO387; clear HO391; clear HO394; clear HO397; clear HO401; clear HO404; clear HO407; clear BK388; clear BK398; clear HB; have HO378 := n0_; have HO381 := n1_; have HO384 := n2_; have HO387 := n3_; have HO391 := n4_; have HO394 := n5_; have HO397 := n6_; have HO401 := n7_; have HO404 := n8_; have HO407 := n9_; have BK388 := n10_; have BK398 := n11_; have HB := n12_; have BK408 := n13_; have GW408 := n14_; have GE408 := n15_; have NB388_408 := n16_; have NB408_388 := n17_; have NB398_408 := n18_; have NB408_398 := n19_; clear n0_ n1_ n2_ n3_ n4_ n5_ n6_ n7_ n8_ n9_ n10_ n11_ n12_ n13_ n14_ n15_ n16_ n17_ n18_ n19_; clear hb hbox hg; obtain ⟨Ao39, co39, eo39⟩ := Kd.R_slice HO401.out; subst eo39; have hnb40 := NB408_388.out; have hnc40 := NB388_408.out; have hnb41 := NB408_398.out; have hnc41 := NB398_408.out; have hcz42_0 : w38.cell? ⟨gb408, 0, none⟩ = some (.slice none 0 0) := (blk_cell BK408.out 0).trans rfl; have hcz42_1 : w38.cell? ⟨gb408, 1, none⟩ = some (.slice none 0 0) := (blk_cell BK408.out 1).trans rfl; have hcz42_2 : w38.cell? ⟨gb408, 2, none⟩ = some (.slice none 0 0) := (blk_cell BK408.out 2).trans rfl; have hfz42_0 := blk_frozen BK408.out 0; have hfz42_1 := blk_frozen BK408.out 1; have hfz42_2 := blk_frozen BK408.out 2; obtain ⟨Ao43, co43, eo43⟩ := Kd.R_slice HO404.out; subst eo43; obtain ⟨Ao44, co44, eo44⟩ := Kd.R_slice HO407.out; subst eo44) | ((with_reducible refine gate_dst (N := 48) rfl ?_); (try (refine gate_guard (by rfl) ?_; dsimp only)); refine Kd.R_lit k24 _ 24 ?hg (N := 48) ?hd (xs := ([] : List (S24))) (inner := []) (ok := fun _ => True) (okp := fun _ => True) ?hr ?hp (fun _ hk => hk) trivial (Below.refl _ _) (Nat.le_refl _) (by simp) ?_; (case hd => rfl); (case hg => rfl); (case hr => first | (go_simp; done) | (go_simp; rfl)); (case hp => exact (Reps.none _ _)); intro v410 w45 ho46 hb hg_ hnew_; clear hg_ hnew_; (first | rw [← Ny409.out] at ho46 | (simp only [Int.reduceToNat] at ho46; rw [← Ny409.out] at ho46)); have n0_ := Aside0.mk (Kd.R_below (by (with_reducible repeat (first | apply Kd.R_alloc | apply Kd.R_drewN | apply Kd.R_drew)); exact (Kd.R_mono (Kd.R_far (p := ⟨gb408, 2, none⟩) (Kd.R_far (p := ⟨gb408, 1, none⟩) (Kd.R_far (p := ⟨gb408, 0, none⟩) (Kd.R_types HO378.out BK408.out (by decide)) (fun _ hk => hk.2) (.slice Ao39 t399.length co39)) (fun _ hk => hk.2) (.slice Ao43 t402.length co43)) (fun _ hk => hk.2) (.slice Ao44 t405.length co44)) (fun _ h_ => h_.1))) hb); have n1_ := Aside0.mk (Kd.R_below (by (with_reducible repeat (first | apply Kd.R_alloc | apply Kd.R_drewN | apply Kd.R_drew)); exact (Kd.R_mono (Kd.R_far (p := ⟨gb408, 2, none⟩) (Kd.R_far (p := ⟨gb408, 1, none⟩) (Kd.R_far (p := ⟨gb408, 0, none⟩) (Kd.R_types HO381.out BK408.out (by decide)) (fun _ hk => hk.2) (.slice Ao39 t399.length co39)) (fun _ hk => hk.2) (.slice Ao43 t402.length co43)) (fun _ hk => hk.2) (.slice Ao44 t405.length co44)) (fun _ h_ => h_.1))) hb); have n2_ := Aside0.mk (Kd.R_elder' (by (with_reducible repeat (first | apply Kd.R_alloc | apply Kd.R_drewN | apply Kd.R_drew)); exact (Kd.R_mono (Kd.R_far (p := ⟨gb408, 2, none⟩) (Kd.R_far (p := ⟨gb408, 1, none⟩) (Kd.R_far (p := ⟨gb408, 0, none⟩) (Kd.R_types HO384.out BK408.out (by decide)) (fun _ hk => hk.2) (.slice Ao39 t399.length co39)) (fun _ hk => hk.2) (.slice Ao43 t402.length co43)) (fun _ hk => hk.2) (.slice Ao44 t405.length co44)) (fun _ h_ => h_.1))) (Kd.R_base ho46) hb); have n3_ := Aside0.mk (Kd.R_below (by (with_reducible repeat (first | apply Kd.R_alloc | apply Kd.R_drewN | apply Kd.R_drew)); exact (Kd.R_mono (Kd.R_far (p := ⟨gb408, 2, none⟩) (Kd.R_far (p := ⟨gb408, 1, none⟩) (Kd.R_far (p := ⟨gb408, 0, none⟩) (Kd.R_types HO387.out BK408.out (by decide)) (fun _ hk => hk.2) (.slice Ao39 t399.length co39)) (fun _ hk => hk.2) (.slice Ao43 t402.length co43)) (fun _ hk => hk.2) (.slice Ao44 t405.length co44)) (fun _ h_ => h_.1))) hb); have n4_ := Aside0.mk (Kd.R_below (by (with_reducible repeat (first | apply Kd.R_alloc | apply Kd.R_drewN | apply Kd.R_drew)); exact (Kd.R_mono (Kd.R_far (p := ⟨gb408, 2, none⟩) (Kd.R_far (p := ⟨gb408, 1, none⟩) (Kd.R_far (p := ⟨gb408, 0, none⟩) (Kd.R_types HO391.out BK408.out (by decide)) (fun _ hk => hk.2) (.slice Ao39 t399.length co39)) (fun _ hk => hk.2) (.slice Ao43 t402.length co43)) (fun _ hk => hk.2) (.slice Ao44 t405.length co44)) (fun _ h_ => h_.1))) hb); have n5_ := Aside0.mk (Kd.R_elder' (by (with_reducible repeat (first | apply Kd.R_alloc | apply Kd.R_drewN | apply Kd.R_drew)); exact (Kd.R_mono (Kd.R_far (p := ⟨gb408, 2, none⟩) (Kd.R_far (p := ⟨gb408, 1, none⟩) (Kd.R_far (p := ⟨gb408, 0, none⟩) (Kd.R_types HO394.out BK408.out (by decide)) (fun _ hk => hk.2) (.slice Ao39 t399.length co39)) (fun _ hk => hk.2) (.slice Ao43 t402.length co43)) (fun _ hk => hk.2) (.slice Ao44 t405.length co44)) (fun _ h_ => h_.1))) (Kd.R_base ho46) hb); have n6_ := Aside0.mk (Kd.R_below (by (with_reducible repeat (first | apply Kd.R_alloc | apply Kd.R_drewN | apply Kd.R_drew)); exact (Kd.R_mono (Kd.R_far (p := ⟨gb408, 2, none⟩) (Kd.R_far (p := ⟨gb408, 1, none⟩) (Kd.R_far (p := ⟨gb408, 0, none⟩) (Kd.R_types HO397.out BK408.out (by decide)) (fun _ hk => hk.2) (.slice Ao39 t399.length co39)) (fun _ hk => hk.2) (.slice Ao43 t402.length co43)) (fun _ hk => hk.2) (.slice Ao44 t405.length co44)) (fun _ h_ => h_.1))) hb); have n7_ := Aside0.mk (Kd.R_below (by (with_reducible repeat (first | apply Kd.R_alloc | apply Kd.R_drewN | apply Kd.R_drew)); exact (Kd.R_mono (Kd.R_far (p := ⟨gb408, 2, none⟩) (Kd.R_far (p := ⟨gb408, 1, none⟩) (Kd.R_far (p := ⟨gb408, 0, none⟩) (Kd.R_types HO401.out BK408.out (by decide)) (fun _ hk => hk.2) (.slice Ao39 t399.length co39)) (fun _ hk => hk.2) (.slice Ao43 t402.length co43)) (fun _ hk => hk.2) (.slice Ao44 t405.length co44)) (fun _ h_ => h_.1))) hb); have n8_ := Aside0.mk (Kd.R_elder' (by (with_reducible repeat (first | apply Kd.R_alloc | apply Kd.R_drewN | apply Kd.R_drew)); exact (Kd.R_mono (Kd.R_far (p := ⟨gb408, 2, none⟩) (Kd.R_far (p := ⟨gb408, 1, none⟩) (Kd.R_far (p := ⟨gb408, 0, none⟩) (Kd.R_types HO404.out BK408.out (by decide)) (fun _ hk => hk.2) (.slice Ao39 t399.length co39)) (fun _ hk => hk.2) (.slice Ao43 t402.length co43)) (fun _ hk => hk.2) (.slice Ao44 t405.length co44)) (fun _ h_ => h_.1))) (Kd.R_base ho46) hb); have n9_ := Aside0.mk (Kd.R_below (by (with_reducible repeat (first | apply Kd.R_alloc | apply Kd.R_drewN | apply Kd.R_drew)); exact (Kd.R_mono (Kd.R_far (p := ⟨gb408, 2, none⟩) (Kd.R_far (p := ⟨gb408, 1, none⟩) (Kd.R_far (p := ⟨gb408, 0, none⟩) (Kd.R_types HO407.out BK408.out (by decide)) (fun _ hk => hk.2) (.slice Ao39 t399.length co39)) (fun _ hk => hk.2) (.slice Ao43 t402.length co43)) (fun _ hk => hk.2) (.slice Ao44 t405.length co44)) (fun _ h_ => h_.1))) hb); have n10_ := Aside0.mk (Kd.R_lower (Kd.R_new' (Kd.R_new' (Kd.R_new' ho46 (Kd.R_lt (by (with_reducible repeat (first | apply Kd.R_alloc | apply Kd.R_drewN | apply Kd.R_drew)); exact (Kd.R_mono (Kd.R_far (p := ⟨gb408, 2, none⟩) (Kd.R_far (p := ⟨gb408, 1, none⟩) (Kd.R_far (p := ⟨gb408, 0, none⟩) (Kd.R_types HO384.out BK408.out (by decide)) (fun _ hk => hk.2) (.slice Ao39 t399.length co39)) (fun _ hk => hk.2) (.slice Ao43 t402.length co43)) (fun _ hk => hk.2) (.slice Ao44 t405.length co44)) (fun _ h_ => h_.1))))) (Kd.R_lt (by (with_reducible repeat (first | apply Kd.R_alloc | apply Kd.R_drewN | apply Kd.R_drew)); exact (Kd.R_mono (Kd.R_far (p := ⟨gb408, 2, none⟩) (Kd.R_far (p := ⟨gb408, 1, none⟩) (Kd.R_far (p := ⟨gb408, 0, none⟩) (Kd.R_types HO394.out BK408.out (by decide)) (fun _ hk => hk.2) (.slice Ao39 t399.length co39)) (fun _ hk => hk.2) (.slice Ao43 t402.length co43)) (fun _ hk => hk.2) (.slice Ao44 t405.length co44)) (fun _ h_ => h_.1))))) (Kd.R_lt (by (with_reducible repeat (first | apply Kd.R_alloc | apply Kd.R_drewN | apply Kd.R_drew)); exact (Kd.R_mono (Kd.R_far (p := ⟨gb408, 2, none⟩) (Kd.R_far (p := ⟨gb408, 1, none⟩) (Kd.R_far (p := ⟨gb408, 0, none⟩) (Kd.R_types HO404.out BK408.out (by decide)) (fun _ hk => hk.2) (.slice Ao39 t399.length co39)) (fun _ hk => hk.2) (.slice Ao43 t402.length co43)) (fun _ hk => hk.2) (.slice Ao44 t405.length co44)) (fun _ h_ => h_.1))))) (below_size (by repeat (first | (with_reducible first | exact HB.out | apply below_alloc | apply pw_below_drewN | apply below_drew1 | refine below_set ?_ GE388.out | refine below_set ?_ GE398.out | refine below_set ?_ GE408.out) | exact HB.out)))); have n11_ := Aside0.mk (blk_below (g := gb388) (o := .cells #[.slice Ao26 t379.length co26, .slice Ao28 t382.length co28, .slice Ao29 t385.length co29] 37 (0, 0)) (by (with_reducible repeat (first | refine blk_drewN ?_ _ | refine blk_drew ?_ | refine blk_alloc ?_ _)); refine blk_far ?_ NB388_408.out _; (with_reducible repeat (first | refine blk_drewN ?_ _ | refine blk_drew ?_ | refine blk_alloc ?_ _)); refine blk_far ?_ NB388_408.out _; (with_reducible repeat (first | refine blk_drewN ?_ _ | refine blk_drew ?_ | refine blk_alloc ?_ _)); refine blk_far ?_ NB388_408.out _; (with_reducible repeat (first | refine blk_drewN ?_ _ | refine blk_drew ?_ | refine blk_alloc ?_ _)); exact BK388.out) hb); have n12_ := Aside0.mk (blk_below (g := gb398) (o := .cells #[.slice Ao32 t389.length co32, .slice Ao35 t392.length co35, .slice Ao36 t395.length co36] 37 (0, 0)) (by (with_reducible repeat (first | refine blk_drewN ?_ _ | refine blk_drew ?_ | refine blk_alloc ?_ _)); refine blk_far ?_ NB398_408.out _; (with_reducible repeat (first | refine blk_drewN ?_ _ | refine blk_drew ?_ | refine blk_alloc ?_ _)); refine blk_far ?_ NB398_408.out _; (with_reducible repeat (first | refine blk_drewN ?_ _ | refine blk_drew ?_ | refine blk_alloc ?_ _)); refine blk_far ?_ NB398_408.out _; (with_reducible repeat (first | refine blk_drewN ?_ _ | refine blk_drew ?_ | refine blk_alloc ?_ _)); exact BK398.out) hb); have n13_ := Aside0.mk (blk_below (g := gb408) (o := .cells #[.slice Ao39 t399.length co39, .slice Ao43 t402.length co43, .slice Ao44 t405.length co44] 37 (0, 0)) (by (with_reducible repeat (first | refine blk_drewN ?_ _ | refine blk_drew ?_ | refine blk_alloc ?_ _)); refine blk_put (cs := #[.slice Ao39 t399.length co39, .slice Ao43 t402.length co43, .slice none 0 0]) ?_ 2 _ rfl; (with_reducible repeat (first | refine blk_drewN ?_ _ | refine blk_drew ?_ | refine blk_alloc ?_ _)); refine blk_put (cs := #[.slice Ao39 t399.length co39, .slice none 0 0, .slice none 0 0]) ?_ 1 _ rfl; (with_reducible repeat (first | refine blk_drewN ?_ _ | refine blk_drew ?_ | refine blk_alloc ?_ _)); refine blk_put (cs := #[.slice none 0 0, .slice none 0 0, .slice none 0 0]) ?_ 0 _ rfl; (with_reducible repeat (first | refine blk_drewN ?_ _ | refine blk_drew ?_ | refine blk_alloc ?_ _)); exact BK408.out) hb); have n14_ := Aside0.mk (below_step (by repeat (first | (with_reducible first | exact HB.out | apply below_alloc | apply pw_below_drewN | apply below_drew1 | refine below_set ?_ GE388.out | refine below_set ?_ GE398.out | refine below_set ?_ GE408.out) | exact HB.out)) hb); clear HO378; clear HO381; clear HO384; clear HO387; clear HO391; clear HO394; clear HO397; clear HO401; clear HO404; clear HO407; clear BK388; clear BK398; clear BK408; clear HB; have HO378 := n0_; have HO381 := n1_; have HO384 := n2_; have HO387 := n3_; have HO391 := n4_; have HO394 := n5_; have HO397 := n6_; have HO401 := n7_; have HO404 := n8_; have HO407 := n9_; have HO411 := n10_; have BK388 := n11_; have BK398 := n12_; have BK408 := n13_; have HB := n14_; clear n0_ n1_ n2_ n3_ n4_ n5_ n6_ n7_ n8_ n9_ n10_ n11_ n12_ n13_ n14_; clear hb ho46; have hcz47_0 : w45.cell? ⟨gb398, 0, none⟩ = some (.slice Ao32 t389.length co32) := (blk_cell BK398.out 0).trans rfl; have hcz47_1 : w45.cell? ⟨gb398, 1, none⟩ = some (.slice Ao35 t392.length co35) := (blk_cell BK398.out 1).trans rfl; have hcz47_2 : w45.cell? ⟨gb398, 2, none⟩ = some (.slice Ao36 t395.length co36) := (blk_cell BK398.out 2).trans rfl; have hfz47_0 := blk_frozen BK398.out 0; have hfz47_1 := blk_frozen BK398.out 1; have hfz47_2 := blk_frozen BK398.out 2) | ((with_reducible refine gate_builtin (b := .append) (xs := #[.tmp 48, .tmp 50]) rfl ?_); (try (refine gate_guard (by rfl) ?_; dsimp only)); at_builtin; refine Kd.R_append_rows k24 (w0 := w) w.heap.size rfl (.tmp 48) (.tmp 50) 34 24 (.agg #[(.int .i64 0), (.int .i64 0), (.int .i64 0)]) 24 rfl Try.underlying34 info24 rfl (by decide) (by omega) v410 y409 t392 _ _ _ (fun k_ => some k_ ≠ (.slice Ao28 t382.length co28 : Value).ownBlock ∧ some k_ ≠ (.slice Ao35 t392.length co35 : Value).ownBlock ∧ some k_ ≠ (.slice Ao43 t402.length co43 : Value).ownBlock) (fun _ => False) rfl rfl ?aO ?aR (fun _ _ h => h) (fun _ h => h.elim) ?aF ?aB ?aS ?aL ?_; (case aR => repeat (first | exact (Kd.R_reads' HO394.out).2.2 | (with_reducible refine Kd.C_alloc ?_ _) | (with_reducible refine Kd.C_drewN ?_ _) | (with_reducible refine Kd.C_drew ?_))); (case aB => exact (by repeat (first | (with_reducible first | exact HB.out | apply below_alloc | apply pw_below_drewN | apply below_drew1 | refine below_set ?_ GE388.out | refine below_set ?_ GE398.out | refine below_set ?_ GE408.out) | exact HB.out))); (case aF => exact (fun k_ hk => ⟨Kd.fresh' (Kd.R_lt (by (with_reducible repeat (first | apply Kd.R_alloc | apply Kd.R_drewN | apply Kd.R_drew)); exact HO384.out)) k_ hk, Kd.fresh' (Kd.R_lt (by (with_reducible repeat (first | apply Kd.R_alloc | apply Kd.R_drewN | apply Kd.R_drew)); exact HO394.out)) k_ hk, Kd.fresh' (Kd.R_lt (by (with_reducible repeat (first | apply Kd.R_alloc | apply Kd.R_drewN | apply Kd.R_drew)); exact HO404.out)) k_ hk⟩)); (case aO => exact (by (with_reducible repeat (first | apply Kd.R_alloc | apply Kd.R_drewN | apply Kd.R_drew)); exact Kd.R_mono HO411.out (fun _ hk => ⟨hk.1.1.2, ⟨hk.1.2, hk.2⟩⟩))); (case aS => exact (below_size (by repeat (first | (with_reducible first | exact HB.out | apply below_alloc | apply pw_below_drewN | apply below_drew1 | refine below_set ?_ GE388.out | refine below_set ?_ GE398.out | refine below_set ?_ GE408.out) | exact HB.out)))); (case aL => have := LMc18.out; omega); intro v413 w48 ho hb hg hat; rw [← Ny412.out] at ho; have n0_ := Aside0.mk (Kd.R_over' (by (with_reducible repeat (first | apply Kd.R_alloc | apply Kd.R_drewN | apply Kd.R_drew)); exact HO378.out) (Kd.R_typed (by (with_reducible repeat (first | apply Kd.R_alloc | apply Kd.R_drewN | apply Kd.R_drew)); exact HO411.out)) (by decide) hg); have n1_ := Aside0.mk (Kd.R_over' (by (with_reducible repeat (first | apply Kd.R_alloc | apply Kd.R_drewN | apply Kd.R_drew)); exact HO381.out) (Kd.R_typed (by (with_reducible repeat (first | apply Kd.R_alloc | apply Kd.R_drewN | apply Kd.R_drew)); exact HO411.out)) (by decide) hg); have n2_ := Aside0.mk (Kd.R_after (ok := (fun k_ => some k_ ≠ (.slice Ao35 t392.length co35 : Value).ownBlock ∧ some k_ ≠ (.slice Ao43 t402.length co43 : Value).ownBlock)) (by (with_reducible repeat (first | apply Kd.R_alloc | apply Kd.R_drewN | apply Kd.R_drew)); exact Kd.R_mono HO384.out (fun _ hk => ⟨⟨hk.1.1.2, hk.1.2⟩, hk.2⟩)) hg hat); have n3_ := Aside0.mk (Kd.R_over' (by (with_reducible repeat (first | apply Kd.R_alloc | apply Kd.R_drewN | apply Kd.R_drew)); exact HO387.out) (Kd.R_typed (by (with_reducible repeat (first | apply Kd.R_alloc | apply Kd.R_drewN | apply Kd.R_drew)); exact HO411.out)) (by decide) hg); have n4_ := Aside0.mk (blk_grown (g := gb388) (o := .cells #[.slice Ao26 t379.length co26, .slice Ao28 t382.length co28, .slice Ao29 t385.length co29] 37 (0, 0)) (by (with_reducible repeat (first | refine blk_drewN ?_ _ | refine blk_drew ?_ | refine blk_alloc ?_ _)); exact BK388.out) hg (Kd.R_ne HO411.out BK388.out (by decide))); have n5_ := Aside0.mk (Kd.R_over' (by (with_reducible repeat (first | apply Kd.R_alloc | apply Kd.R_drewN | apply Kd.R_drew)); exact HO391.out) (Kd.R_typed (by (with_reducible repeat (first | apply Kd.R_alloc | apply Kd.R_drewN | apply Kd.R_drew)); exact HO411.out)) (by decide) hg); have n6_ := Aside0.mk (Kd.R_after (ok := (fun k_ => some k_ ≠ (.slice Ao28 t382.length co28 : Value).ownBlock ∧ some k_ ≠ (.slice Ao43 t402.length co43 : Value).ownBlock)) (by (with_reducible repeat (first | apply Kd.R_alloc | apply Kd.R_drewN | apply Kd.R_drew)); exact Kd.R_mono HO394.out (fun _ hk => ⟨⟨hk.1.1.2, hk.1.2⟩, hk.2⟩)) hg hat); have n7_ := Aside0.mk (Kd.R_over' (by (with_reducible repeat (first | apply Kd.R_alloc | apply Kd.R_drewN | apply Kd.R_drew)); exact HO397.out) (Kd.R_typed (by (with_reducible repeat (first | apply Kd.R_alloc | apply Kd.R_drewN | apply Kd.R_drew)); exact HO411.out)) (by decide) hg); have n8_ := Aside0.mk (blk_grown (g := gb398) (o := .cells #[.slice Ao32 t389.length co32, .slice Ao35 t392.length co35, .slice Ao36 t395.length co36] 37 (0, 0)) (by (with_reducible repeat (first | refine blk_drewN ?_ _ | refine blk_drew ?_ | refine blk_alloc ?_ _)); exact BK398.out) hg (Kd.R_ne HO411.out BK398.out (by decide))); have n9_ := Aside0.mk (Kd.R_over' (by (with_reducible repeat (first | apply Kd.R_alloc | apply Kd.R_drewN | apply Kd.R_drew)); exact HO401.out) (Kd.R_typed (by (with_reducible repeat (first | apply Kd.R_alloc | apply Kd.R_drewN | apply Kd.R_drew)); exact HO411.out)) (by decide) hg); have n10_ := Aside0.mk (Kd.R_after (ok := (fun k_ => some k_ ≠ (.slice Ao28 t382.length co28 : Value).ownBlock ∧ some k_ ≠ (.slice Ao35 t392.length co35 : Value).ownBlock)) (by (with_reducible repeat (first | apply Kd.R_alloc | apply Kd.R_drewN | apply Kd.R_drew)); exact Kd.R_mono HO404.out (fun _ hk => ⟨⟨hk.1.1.2, hk.1.2⟩, hk.2⟩)) hg hat); have n11_ := Aside0.mk (Kd.R_over' (by (with_reducible repeat (first | apply Kd.R_alloc | apply Kd.R_drewN | apply Kd.R_drew)); exact HO407.out) (Kd.R_typed (by (with_reducible repeat (first | apply Kd.R_alloc | apply Kd.R_drewN | apply Kd.R_drew)); exact HO411.out)) (by decide) hg); have n12_ := Aside0.mk (blk_grown (g := gb408) (o := .cells #[.slice Ao39 t399.length co39, .slice Ao43 t402.length co43, .slice Ao44 t405.length co44] 37 (0, 0)) (by (with_reducible repeat (first | refine blk_drewN ?_ _ | refine blk_drew ?_ | refine blk_alloc ?_ _)); exact BK408.out) hg (Kd.R_ne HO411.out BK408.out (by decide))); have n13_ := Aside0.mk (hb); have n14_ := Aside0.mk (ho); clear HO378; clear HO381; clear HO384; clear HO387; clear BK388; clear HO391; clear HO394; clear HO397; clear BK398; clear HO401; clear HO404; clear HO407; clear BK408; clear HB; clear HO411; have HO378 := n0_; have HO381 := n1_; have HO384 := n2_; have HO387 := n3_; have BK388 := n4_; have HO391 := n5_; have HO394 := n6_; have HO397 := n7_; have BK398 := n8_; have HO401 := n9_; have HO404 := n10_; have HO407 := n11_; have BK408 := n12_; have HB := n13_; have HO414 := n14_; clear n0_ n1_ n2_ n3_ n4_ n5_ n6_ n7_ n8_ n9_ n10_ n11_ n12_ n13_ n14_; clear ho hb hg hat))
             repeat (go_quiet (fail); try go_wp2_with (fail))
             go_loopg [8, 9] kj4 (fun kq v8 v9 w' => ∃ (x8_2 : List (S24)) (x9_2 : Int), v9 = .int .i64 x9_2 ∧ Aside0 (seneschallaw17_PastJoins.l0 kq x8_2 x9_2 t379 t382 t385 t389 t392 t395 t399 t402 t405 = some r) ∧ Aside0 (kq ≤ kj4) ∧ Aside0 (Kd.R k24 24 w' w.heap.size (fun k_ => some k_ ≠ ((.slice Ao28 t382.length co28) : Value).ownBlock ∧ some k_ ≠ ((.slice Ao35 t392.length co35) : Value).ownBlock ∧ some k_ ≠ ((.slice Ao43 t402.length co43) : Value).ownBlock) v8 x8_2) ∧ Aside0 (Kd.R k43 43 w' w.heap.size (fun k_ => some k_ ≠ ((.slice Ao32 t389.length co32) : Value).ownBlock ∧ some k_ ≠ ((.slice Ao39 t399.length co39) : Value).ownBlock) (.slice Ao26 t379.length co26) t379) ∧ Aside0 (Kd.R k24 24 w' w.heap.size (fun k_ => some k_ ≠ (v8 : Value).ownBlock ∧ some k_ ≠ ((.slice Ao35 t392.length co35) : Value).ownBlock ∧ some k_ ≠ ((.slice Ao43 t402.length co43) : Value).ownBlock) (.slice Ao28 t382.length co28) t382) ∧ Aside0 (Kd.R k45 45 w' w.heap.size (fun k_ => some k_ ≠ ((.slice Ao36 t395.length co36) : Value).ownBlock ∧ some k_ ≠ ((.slice Ao44 t405.length co44) : Value).ownBlock) (.slice Ao29 t385.length co29) t385) ∧ Aside0 (Kd.R k43 43 w' w.heap.size (fun k_ => some k_ ≠ ((.slice Ao26 t379.length co26) : Value).ownBlock ∧ some k_ ≠ ((.slice Ao39 t399.length co39) : Value).ownBlock) (.slice Ao32 t389.length co32) t389) ∧ Aside0 (Kd.R k24 24 w' w.heap.size (fun k_ => some k_ ≠ (v8 : Value).ownBlock ∧ some k_ ≠ ((.slice Ao28 t382.length co28) : Value).ownBlock ∧ some k_ ≠ ((.slice Ao43 t402.length co43) : Value).ownBlock) (.slice Ao35 t392.length co35) t392) ∧ Aside0 (Kd.R k45 45 w' w.heap.size (fun k_ => some k_ ≠ ((.slice Ao29 t385.length co29) : Value).ownBlock ∧ some k_ ≠ ((.slice Ao44 t405.length co44) : Value).ownBlock) (.slice Ao36 t395.length co36) t395) ∧ Aside0 (Kd.R k43 43 w' w.heap.size (fun k_ => some k_ ≠ ((.slice Ao26 t379.length co26) : Value).ownBlock ∧ some k_ ≠ ((.slice Ao32 t389.length co32) : Value).ownBlock) (.slice Ao39 t399.length co39) t399) ∧ Aside0 (Kd.R k24 24 w' w.heap.size (fun k_ => some k_ ≠ (v8 : Value).ownBlock ∧ some k_ ≠ ((.slice Ao28 t382.length co28) : Value).ownBlock ∧ some k_ ≠ ((.slice Ao35 t392.length co35) : Value).ownBlock) (.slice Ao43 t402.length co43) t402) ∧ Aside0 (Kd.R k45 45 w' w.heap.size (fun k_ => some k_ ≠ ((.slice Ao29 t385.length co29) : Value).ownBlock ∧ some k_ ≠ ((.slice Ao36 t395.length co36) : Value).ownBlock) (.slice Ao44 t405.length co44) t405) ∧ Aside0 (w'.heap[gb388]? = some (.cells #[(.slice Ao26 t379.length co26), (.slice Ao28 t382.length co28), (.slice Ao29 t385.length co29)] 37 (0, 0))) ∧ Aside0 (w'.heap[gb398]? = some (.cells #[(.slice Ao32 t389.length co32), (.slice Ao35 t392.length co35), (.slice Ao36 t395.length co36)] 37 (0, 0))) ∧ Aside0 (w'.heap[gb408]? = some (.cells #[(.slice Ao39 t399.length co39), (.slice Ao43 t402.length co43), (.slice Ao44 t405.length co44)] 37 (0, 0))) ∧ Aside0 (Below w.heap.size w w'))
             case atStart => exact ⟨(y412), (0), (by first | rfl | (simp; done) | (simp [*]; done)), H', ⟨Nat.le_refl _⟩, ⟨by (with_reducible repeat (first | apply Kd.R_alloc | apply Kd.R_drewN | apply Kd.R_drew)); exact HO414.out⟩, ⟨by (with_reducible repeat (first | apply Kd.R_alloc | apply Kd.R_drewN | apply Kd.R_drew)); exact Kd.R_mono HO381.out (fun _ hk => ⟨hk.1.2, hk.2⟩)⟩, ⟨by (with_reducible repeat (first | apply Kd.R_alloc | apply Kd.R_drewN | apply Kd.R_drew)); exact Kd.R_mono HO384.out (fun _ hk => ⟨hk.2, ⟨hk.1.1, hk.1.2⟩⟩)⟩, ⟨by (with_reducible repeat (first | apply Kd.R_alloc | apply Kd.R_drewN | apply Kd.R_drew)); exact Kd.R_mono HO387.out (fun _ hk => ⟨hk.1.2, hk.2⟩)⟩, ⟨by (with_reducible repeat (first | apply Kd.R_alloc | apply Kd.R_drewN | apply Kd.R_drew)); exact Kd.R_mono HO391.out (fun _ hk => ⟨hk.1.2, hk.2⟩)⟩, ⟨by (with_reducible repeat (first | apply Kd.R_alloc | apply Kd.R_drewN | apply Kd.R_drew)); exact Kd.R_mono HO394.out (fun _ hk => ⟨hk.2, ⟨hk.1.1, hk.1.2⟩⟩)⟩, ⟨by (with_reducible repeat (first | apply Kd.R_alloc | apply Kd.R_drewN | apply Kd.R_drew)); exact Kd.R_mono HO397.out (fun _ hk => ⟨hk.1.2, hk.2⟩)⟩, ⟨by (with_reducible repeat (first | apply Kd.R_alloc | apply Kd.R_drewN | apply Kd.R_drew)); exact Kd.R_mono HO401.out (fun _ hk => ⟨hk.1.2, hk.2⟩)⟩, ⟨by (with_reducible repeat (first | apply Kd.R_alloc | apply Kd.R_drewN | apply Kd.R_drew)); exact Kd.R_mono HO404.out (fun _ hk => ⟨hk.2, ⟨hk.1.1, hk.1.2⟩⟩)⟩, ⟨by (with_reducible repeat (first | apply Kd.R_alloc | apply Kd.R_drewN | apply Kd.R_drew)); exact Kd.R_mono HO407.out (fun _ hk => ⟨hk.1.2, hk.2⟩)⟩, ⟨by (with_reducible repeat (first | refine blk_drewN ?_ _ | refine blk_drew ?_ | refine blk_alloc ?_ _)); exact BK388.out⟩, ⟨by (with_reducible repeat (first | refine blk_drewN ?_ _ | refine blk_drew ?_ | refine blk_alloc ?_ _)); exact BK398.out⟩, ⟨by (with_reducible repeat (first | refine blk_drewN ?_ _ | refine blk_drew ?_ | refine blk_alloc ?_ _)); exact BK408.out⟩, ⟨by repeat (first | (with_reducible first | exact HB.out | apply below_alloc | apply pw_below_drewN | apply below_drew1 | refine below_set ?_ GE388.out | refine below_set ?_ GE398.out | refine below_set ?_ GE408.out) | exact HB.out)⟩⟩
             case round =>
              clear H'
              try clear c1
              try clear p2
              try clear c3
              try clear c4
              try clear p6
              try clear c7
              try clear c7b0
              try clear c7b1
              try clear c8
              try clear c8b0
              try clear c8b1
              try clear c10
              try clear c12
              try clear c13
              try clear c14
              try clear c18
              try clear c33
              try clear c40
              try clear c41
              try clear hcz27_0
              try clear hcz27_1
              try clear hcz27_2
              try clear hcz34_0
              try clear hcz34_1
              try clear hcz34_2
              try clear hcz42_0
              try clear hcz42_1
              try clear hcz42_2
              try clear hcz47_0
              try clear hcz47_1
              try clear hcz47_2
              try clear hfz27_0
              try clear hfz27_1
              try clear hfz27_2
              try clear hfz34_0
              try clear hfz34_1
              try clear hfz34_2
              try clear hfz42_0
              try clear hfz42_1
              try clear hfz42_2
              try clear hfz47_0
              try clear hfz47_1
              try clear hfz47_2
              try clear p2
              obtain ⟨x8_2, x9_2, rfl, HA, HK2, HO_8, HO_389000, HO_389001, HO_389002, HO_399000, HO_399001, HO_399002, HO_409000, HO_409001, HO_409002, BK388, BK398, BK408, HB⟩ := hrel
              cases gk with
              | zero => exact absurd HA.out (by simp [seneschallaw17_PastJoins.l0])
              | succ k2 =>
               have H := HA.out
               clear HA
               simp only [seneschallaw17_PastJoins.l0] at H
               by_cases c49 : x9_2 < (t402.length : Int)
               · rw [if_pos c49] at H
                 have c49b0 : decide (x9_2 < (t402.length : Int)) = true := decide_eq_true c49
                 clear c49
                 have H' := Aside0.mk H
                 clear H
                 have hnb50 := NB408_388.out
                 have hnc50 := NB388_408.out
                 have hnb51 := NB408_398.out
                 have hnc51 := NB398_408.out
                 have hcz52_0 : wr.cell? ⟨gb408, 0, none⟩ = some (.slice Ao39 t399.length co39) := (blk_cell BK408.out 0).trans rfl
                 have hcz52_1 : wr.cell? ⟨gb408, 1, none⟩ = some (.slice Ao43 t402.length co43) := (blk_cell BK408.out 1).trans rfl
                 have hcz52_2 : wr.cell? ⟨gb408, 2, none⟩ = some (.slice Ao44 t405.length co44) := (blk_cell BK408.out 2).trans rfl
                 have hfz52_0 := blk_frozen BK408.out 0
                 have hfz52_1 := blk_frozen BK408.out 1
                 have hfz52_2 := blk_frozen BK408.out 2
                 go_wp2
                 repeat (go_quiet (fail); try go_wp2)
                 go_loopg [10, 11] k2 (fun kq v10 v11 w' => ∃ (x10_3 : Bool) (x11_3 : Int), v10 = .bool x10_3 ∧ v11 = .int .i64 x11_3 ∧ Aside0 (seneschallaw17_PastJoins.l1 kq x8_2 x9_2 x10_3 x11_3 t379 t382 t385 t389 t392 t395 t399 t402 t405 = some r) ∧ Aside0 (kq ≤ k2) ∧ Aside0 (Kd.R k24 24 w' w.heap.size (fun k_ => some k_ ≠ ((.slice Ao28 t382.length co28) : Value).ownBlock ∧ some k_ ≠ ((.slice Ao35 t392.length co35) : Value).ownBlock ∧ some k_ ≠ ((.slice Ao43 t402.length co43) : Value).ownBlock) u8 x8_2) ∧ Aside0 (Kd.R k43 43 w' w.heap.size (fun k_ => some k_ ≠ ((.slice Ao32 t389.length co32) : Value).ownBlock ∧ some k_ ≠ ((.slice Ao39 t399.length co39) : Value).ownBlock) (.slice Ao26 t379.length co26) t379) ∧ Aside0 (Kd.R k24 24 w' w.heap.size (fun k_ => some k_ ≠ (u8 : Value).ownBlock ∧ some k_ ≠ ((.slice Ao35 t392.length co35) : Value).ownBlock ∧ some k_ ≠ ((.slice Ao43 t402.length co43) : Value).ownBlock) (.slice Ao28 t382.length co28) t382) ∧ Aside0 (Kd.R k45 45 w' w.heap.size (fun k_ => some k_ ≠ ((.slice Ao36 t395.length co36) : Value).ownBlock ∧ some k_ ≠ ((.slice Ao44 t405.length co44) : Value).ownBlock) (.slice Ao29 t385.length co29) t385) ∧ Aside0 (Kd.R k43 43 w' w.heap.size (fun k_ => some k_ ≠ ((.slice Ao26 t379.length co26) : Value).ownBlock ∧ some k_ ≠ ((.slice Ao39 t399.length co39) : Value).ownBlock) (.slice Ao32 t389.length co32) t389) ∧ Aside0 (Kd.R k24 24 w' w.heap.size (fun k_ => some k_ ≠ (u8 : Value).ownBlock ∧ some k_ ≠ ((.slice Ao28 t382.length co28) : Value).ownBlock ∧ some k_ ≠ ((.slice Ao43 t402.length co43) : Value).ownBlock) (.slice Ao35 t392.length co35) t392) ∧ Aside0 (Kd.R k45 45 w' w.heap.size (fun k_ => some k_ ≠ ((.slice Ao29 t385.length co29) : Value).ownBlock ∧ some k_ ≠ ((.slice Ao44 t405.length co44) : Value).ownBlock) (.slice Ao36 t395.length co36) t395) ∧ Aside0 (Kd.R k43 43 w' w.heap.size (fun k_ => some k_ ≠ ((.slice Ao26 t379.length co26) : Value).ownBlock ∧ some k_ ≠ ((.slice Ao32 t389.length co32) : Value).ownBlock) (.slice Ao39 t399.length co39) t399) ∧ Aside0 (Kd.R k24 24 w' w.heap.size (fun k_ => some k_ ≠ (u8 : Value).ownBlock ∧ some k_ ≠ ((.slice Ao28 t382.length co28) : Value).ownBlock ∧ some k_ ≠ ((.slice Ao35 t392.length co35) : Value).ownBlock) (.slice Ao43 t402.length co43) t402) ∧ Aside0 (Kd.R k45 45 w' w.heap.size (fun k_ => some k_ ≠ ((.slice Ao29 t385.length co29) : Value).ownBlock ∧ some k_ ≠ ((.slice Ao36 t395.length co36) : Value).ownBlock) (.slice Ao44 t405.length co44) t405) ∧ Aside0 (w'.heap[gb388]? = some (.cells #[(.slice Ao26 t379.length co26), (.slice Ao28 t382.length co28), (.slice Ao29 t385.length co29)] 37 (0, 0))) ∧ Aside0 (w'.heap[gb398]? = some (.cells #[(.slice Ao32 t389.length co32), (.slice Ao35 t392.length co35), (.slice Ao36 t395.length co36)] 37 (0, 0))) ∧ Aside0 (w'.heap[gb408]? = some (.cells #[(.slice Ao39 t399.length co39), (.slice Ao43 t402.length co43), (.slice Ao44 t405.length co44)] 37 (0, 0))) ∧ Aside0 (Below w.heap.size w w'))
                 case atStart => exact ⟨(false), (0), (by first | rfl | (simp; done) | (simp [*]; done)), (by first | rfl | (simp; done) | (simp [*]; done)), H', ⟨Nat.le_refl _⟩, ⟨by (with_reducible repeat (first | apply Kd.R_alloc | apply Kd.R_drewN | apply Kd.R_drew)); exact HO_8.out⟩, ⟨by (with_reducible repeat (first | apply Kd.R_alloc | apply Kd.R_drewN | apply Kd.R_drew)); exact HO_389000.out⟩, ⟨by (with_reducible repeat (first | apply Kd.R_alloc | apply Kd.R_drewN | apply Kd.R_drew)); exact HO_389001.out⟩, ⟨by (with_reducible repeat (first | apply Kd.R_alloc | apply Kd.R_drewN | apply Kd.R_drew)); exact HO_389002.out⟩, ⟨by (with_reducible repeat (first | apply Kd.R_alloc | apply Kd.R_drewN | apply Kd.R_drew)); exact HO_399000.out⟩, ⟨by (with_reducible repeat (first | apply Kd.R_alloc | apply Kd.R_drewN | apply Kd.R_drew)); exact HO_399001.out⟩, ⟨by (with_reducible repeat (first | apply Kd.R_alloc | apply Kd.R_drewN | apply Kd.R_drew)); exact HO_399002.out⟩, ⟨by (with_reducible repeat (first | apply Kd.R_alloc | apply Kd.R_drewN | apply Kd.R_drew)); exact HO_409000.out⟩, ⟨by (with_reducible repeat (first | apply Kd.R_alloc | apply Kd.R_drewN | apply Kd.R_drew)); exact HO_409001.out⟩, ⟨by (with_reducible repeat (first | apply Kd.R_alloc | apply Kd.R_drewN | apply Kd.R_drew)); exact HO_409002.out⟩, ⟨by (with_reducible repeat (first | refine blk_drewN ?_ _ | refine blk_drew ?_ | refine blk_alloc ?_ _)); exact BK388.out⟩, ⟨by (with_reducible repeat (first | refine blk_drewN ?_ _ | refine blk_drew ?_ | refine blk_alloc ?_ _)); exact BK398.out⟩, ⟨by (with_reducible repeat (first | refine blk_drewN ?_ _ | refine blk_drew ?_ | refine blk_alloc ?_ _)); exact BK408.out⟩, ⟨by repeat (first | (with_reducible first | exact HB.out | apply below_alloc | apply pw_below_drewN | apply below_drew1 | refine below_set ?_ GE388.out | refine below_set ?_ GE398.out | refine below_set ?_ GE408.out) | exact HB.out)⟩⟩
                 case round =>
                  clear H'
                  try clear c1
                  try clear p2
                  try clear c3
                  try clear c4
                  try clear c5
                  try clear p6
                  try clear c7
                  try clear c7b0
                  try clear c7b1
                  try clear c8
                  try clear c8b0
                  try clear c8b1
                  try clear c10
                  try clear c12
                  try clear c13
                  try clear c14
                  try clear c18
                  try clear c33
                  try clear c40
                  try clear c41
                  try clear c49
                  try clear c49b0
                  try clear c50
                  try clear c51
                  try clear hcz27_0
                  try clear hcz27_1
                  try clear hcz27_2
                  try clear hcz34_0
                  try clear hcz34_1
                  try clear hcz34_2
                  try clear hcz42_0
                  try clear hcz42_1
                  try clear hcz42_2
                  try clear hcz47_0
                  try clear hcz47_1
                  try clear hcz47_2
                  try clear hcz52_0
                  try clear hcz52_1
                  try clear hcz52_2
                  try clear hfz27_0
                  try clear hfz27_1
                  try clear hfz27_2
                  try clear hfz34_0
                  try clear hfz34_1
                  try clear hfz34_2
                  try clear hfz42_0
                  try clear hfz42_1
                  try clear hfz42_2
                  try clear hfz47_0
                  try clear hfz47_1
                  try clear hfz47_2
                  try clear hfz52_0
                  try clear hfz52_1
                  try clear hfz52_2
                  try clear p2
                  try clear p6
                  obtain ⟨x10_3, x11_3, rfl, rfl, HA, HK3, HO_8, HO_389000, HO_389001, HO_389002, HO_399000, HO_399001, HO_399002, HO_409000, HO_409001, HO_409002, BK388, BK398, BK408, HB⟩ := hrel
                  cases gk with
                  | zero => exact absurd HA.out (by simp [seneschallaw17_PastJoins.l1])
                  | succ k3 =>
                   have H := HA.out
                   clear HA
                   simp only [seneschallaw17_PastJoins.l1] at H
                   by_cases c53 : x11_3 < (t392.length : Int)
                   · rw [if_pos c53] at H
                     have c53b0 : decide (x11_3 < (t392.length : Int)) = true := decide_eq_true c53
                     clear c53
                     by_cases c54 : x10_3 = true
                     · subst c54
                       have H1 : (seneschallaw17_PastJoins.l1 k3 x8_2 x9_2 true (wrap64 (x11_3 + 1)) t379 t382 t385 t389 t392 t395 t399 t402 t405) = some r := by rw [if_pos rfl] at H; exact H
                       clear H
                       have H := H1
                       clear H1
                       have H' := Aside0.mk H
                       clear H
                       have hnb55 := NB398_388.out
                       have hnc55 := NB388_398.out
                       have hnb56 := NB398_408.out
                       have hnc56 := NB408_398.out
                       have hcz57_0 : wr.cell? ⟨gb398, 0, none⟩ = some (.slice Ao32 t389.length co32) := (blk_cell BK398.out 0).trans rfl
                       have hcz57_1 : wr.cell? ⟨gb398, 1, none⟩ = some (.slice Ao35 t392.length co35) := (blk_cell BK398.out 1).trans rfl
                       have hcz57_2 : wr.cell? ⟨gb398, 2, none⟩ = some (.slice Ao36 t395.length co36) := (blk_cell BK398.out 2).trans rfl
                       have hfz57_0 := blk_frozen BK398.out 0
                       have hfz57_1 := blk_frozen BK398.out 1
                       have hfz57_2 := blk_frozen BK398.out 2
                       go_wp2
                       repeat (go_quiet (fail); try go_wp2)
                       go_roundg k3
                       case measure => have := HJ4.out; have := HK2.out; have := HK3.out; omega
                       case rel => exact ⟨(true), (wrap64 (x11_3 + 1)), (by first | rfl | (simp; done) | (simp [*]; done)), (by first | rfl | (simp; done) | (simp [*]; done)), H', ⟨by have := HJ4.out; have := HK2.out; have := HK3.out; omega⟩, ⟨by (with_reducible repeat (first | apply Kd.R_alloc | apply Kd.R_drewN | apply Kd.R_drew)); exact HO_8.out⟩, ⟨by (with_reducible repeat (first | apply Kd.R_alloc | apply Kd.R_drewN | apply Kd.R_drew)); exact HO_389000.out⟩, ⟨by (with_reducible repeat (first | apply Kd.R_alloc | apply Kd.R_drewN | apply Kd.R_drew)); exact HO_389001.out⟩, ⟨by (with_reducible repeat (first | apply Kd.R_alloc | apply Kd.R_drewN | apply Kd.R_drew)); exact HO_389002.out⟩, ⟨by (with_reducible repeat (first | apply Kd.R_alloc | apply Kd.R_drewN | apply Kd.R_drew)); exact HO_399000.out⟩, ⟨by (with_reducible repeat (first | apply Kd.R_alloc | apply Kd.R_drewN | apply Kd.R_drew)); exact HO_399001.out⟩, ⟨by (with_reducible repeat (first | apply Kd.R_alloc | apply Kd.R_drewN | apply Kd.R_drew)); exact HO_399002.out⟩, ⟨by (with_reducible repeat (first | apply Kd.R_alloc | apply Kd.R_drewN | apply Kd.R_drew)); exact HO_409000.out⟩, ⟨by (with_reducible repeat (first | apply Kd.R_alloc | apply Kd.R_drewN | apply Kd.R_drew)); exact HO_409001.out⟩, ⟨by (with_reducible repeat (first | apply Kd.R_alloc | apply Kd.R_drewN | apply Kd.R_drew)); exact HO_409002.out⟩, ⟨by (with_reducible repeat (first | refine blk_drewN ?_ _ | refine blk_drew ?_ | refine blk_alloc ?_ _)); exact BK388.out⟩, ⟨by (with_reducible repeat (first | refine blk_drewN ?_ _ | refine blk_drew ?_ | refine blk_alloc ?_ _)); exact BK398.out⟩, ⟨by (with_reducible repeat (first | refine blk_drewN ?_ _ | refine blk_drew ?_ | refine blk_alloc ?_ _)); exact BK408.out⟩, ⟨by repeat (first | (with_reducible first | exact HB.out | apply below_alloc | apply pw_below_drewN | apply below_drew1 | refine below_set ?_ GE388.out | refine below_set ?_ GE398.out | refine below_set ?_ GE408.out) | exact HB.out)⟩⟩
                     · replace c54 := Bool.eq_false_iff.mpr c54
                       subst c54
                       have H1 : (if 0 ≤ x11_3 then (if 0 ≤ x9_2 then (if x9_2 < (t402.length : Int) then (seneschallaw17_PastJoins.l1 k3 x8_2 x9_2 (((rd_T24 t392 x11_3).f0) == ((rd_T24 t402 x9_2).f0) && (((rd_T24 t392 x11_3).f1) == ((rd_T24 t402 x9_2).f1) && (((rd_T24 t392 x11_3).f2) == ((rd_T24 t402 x9_2).f2)))) (wrap64 (x11_3 + 1)) t379 t382 t385 t389 t392 t395 t399 t402 t405) else (none)) else (none)) else (none)) = some r := by rw [if_neg (show ¬ (false = true) by decide)] at H; exact H
                       clear H
                       have H := H1
                       clear H1
                       by_cases c58 : 0 ≤ x11_3
                       · rw [if_pos c58] at H
                         have c58b0 : decide (0 ≤ x11_3) = true := decide_eq_true c58
                         clear c58
                         by_cases c59 : 0 ≤ x9_2
                         · rw [if_pos c59] at H
                           have c59b0 : decide (0 ≤ x9_2) = true := decide_eq_true c59
                           clear c59
                           by_cases c60 : x9_2 < (t402.length : Int)
                           · rw [if_pos c60] at H
                             have c60b0 : decide (x9_2 < (t402.length : Int)) = true := decide_eq_true c60
                             clear c60
                             have H' := Aside0.mk H
                             clear H
                             have hnb61 := NB398_388.out
                             have hnc61 := NB388_398.out
                             have hnb62 := NB398_408.out
                             have hnc62 := NB408_398.out
                             have hcz63_0 : wr.cell? ⟨gb398, 0, none⟩ = some (.slice Ao32 t389.length co32) := (blk_cell BK398.out 0).trans rfl
                             have hcz63_1 : wr.cell? ⟨gb398, 1, none⟩ = some (.slice Ao35 t392.length co35) := (blk_cell BK398.out 1).trans rfl
                             have hcz63_2 : wr.cell? ⟨gb398, 2, none⟩ = some (.slice Ao36 t395.length co36) := (blk_cell BK398.out 2).trans rfl
                             have hfz63_0 := blk_frozen BK398.out 0
                             have hfz63_1 := blk_frozen BK398.out 1
                             have hfz63_2 := blk_frozen BK398.out 2
                             have p415 : 0 ≤ (x11_3 : Int) := of_decide_eq_true (by first | (with_reducible assumption) | assumption)
                             have q415 : x11_3 < (t392.length : Int) := of_decide_eq_true (by first | (with_reducible assumption) | assumption)
                             obtain ⟨ad415, e415, hx415_0, hx415_1, hx415_2⟩ := at_T24 (Kd.R_reads' HO_399001.out).2.2 x11_3 p415 q415
                             cases e415
                             replace p415 := eq_true p415
                             replace q415 := eq_true q415
                             have hnb64 := NB408_388.out
                             have hnc64 := NB388_408.out
                             have hcz65_0 : wr.cell? ⟨gb408, 0, none⟩ = some (.slice Ao39 t399.length co39) := (blk_cell BK408.out 0).trans rfl
                             have hcz65_1 : wr.cell? ⟨gb408, 1, none⟩ = some (.slice Ao43 t402.length co43) := (blk_cell BK408.out 1).trans rfl
                             have hcz65_2 : wr.cell? ⟨gb408, 2, none⟩ = some (.slice Ao44 t405.length co44) := (blk_cell BK408.out 2).trans rfl
                             have hfz65_0 := blk_frozen BK408.out 0
                             have hfz65_1 := blk_frozen BK408.out 1
                             have hfz65_2 := blk_frozen BK408.out 2
                             have p416 : 0 ≤ (x9_2 : Int) := of_decide_eq_true (by first | (with_reducible assumption) | assumption)
                             have q416 : x9_2 < (t402.length : Int) := of_decide_eq_true (by first | (with_reducible assumption) | assumption)
                             obtain ⟨ad416, e416, hx416_0, hx416_1, hx416_2⟩ := at_T24 (Kd.R_reads' HO_409001.out).2.2 x9_2 p416 q416
                             cases e416
                             replace p416 := eq_true p416
                             replace q416 := eq_true q416
                             go_wp2
                             repeat (go_quiet (fail); try go_wp2)
                             go_roundg k3
                             case measure => have := HJ4.out; have := HK2.out; have := HK3.out; omega
                             case rel => exact ⟨((((rd_T24 t392 x11_3).f0) == ((rd_T24 t402 x9_2).f0) && (((rd_T24 t392 x11_3).f1) == ((rd_T24 t402 x9_2).f1) && (((rd_T24 t392 x11_3).f2) == ((rd_T24 t402 x9_2).f2))))), (wrap64 (x11_3 + 1)), (by first | rfl | (simp; done) | (simp [*]; done)), (by first | rfl | (simp; done) | (simp [*]; done)), H', ⟨by have := HJ4.out; have := HK2.out; have := HK3.out; omega⟩, ⟨by (with_reducible repeat (first | apply Kd.R_alloc | apply Kd.R_drewN | apply Kd.R_drew)); exact HO_8.out⟩, ⟨by (with_reducible repeat (first | apply Kd.R_alloc | apply Kd.R_drewN | apply Kd.R_drew)); exact HO_389000.out⟩, ⟨by (with_reducible repeat (first | apply Kd.R_alloc | apply Kd.R_drewN | apply Kd.R_drew)); exact HO_389001.out⟩, ⟨by (with_reducible repeat (first | apply Kd.R_alloc | apply Kd.R_drewN | apply Kd.R_drew)); exact HO_389002.out⟩, ⟨by (with_reducible repeat (first | apply Kd.R_alloc | apply Kd.R_drewN | apply Kd.R_drew)); exact HO_399000.out⟩, ⟨by (with_reducible repeat (first | apply Kd.R_alloc | apply Kd.R_drewN | apply Kd.R_drew)); exact HO_399001.out⟩, ⟨by (with_reducible repeat (first | apply Kd.R_alloc | apply Kd.R_drewN | apply Kd.R_drew)); exact HO_399002.out⟩, ⟨by (with_reducible repeat (first | apply Kd.R_alloc | apply Kd.R_drewN | apply Kd.R_drew)); exact HO_409000.out⟩, ⟨by (with_reducible repeat (first | apply Kd.R_alloc | apply Kd.R_drewN | apply Kd.R_drew)); exact HO_409001.out⟩, ⟨by (with_reducible repeat (first | apply Kd.R_alloc | apply Kd.R_drewN | apply Kd.R_drew)); exact HO_409002.out⟩, ⟨by (with_reducible repeat (first | refine blk_drewN ?_ _ | refine blk_drew ?_ | refine blk_alloc ?_ _)); exact BK388.out⟩, ⟨by (with_reducible repeat (first | refine blk_drewN ?_ _ | refine blk_drew ?_ | refine blk_alloc ?_ _)); exact BK398.out⟩, ⟨by (with_reducible repeat (first | refine blk_drewN ?_ _ | refine blk_drew ?_ | refine blk_alloc ?_ _)); exact BK408.out⟩, ⟨by repeat (first | (with_reducible first | exact HB.out | apply below_alloc | apply pw_below_drewN | apply below_drew1 | refine below_set ?_ GE388.out | refine below_set ?_ GE398.out | refine below_set ?_ GE408.out) | exact HB.out)⟩⟩
                           · rw [if_neg c60] at H
                             exact absurd H (by simp)
                         · rw [if_neg c59] at H
                           exact absurd H (by simp)
                       · rw [if_neg c58] at H
                         exact absurd H (by simp)
                   · rw [if_neg c53] at H
                     have c53b0 : decide (x11_3 < (t392.length : Int)) = false := decide_eq_false c53
                     clear c53
                     by_cases c66 : x10_3 = true
                     · subst c66
                       have H1 : (seneschallaw17_PastJoins.l0 k3 x8_2 (wrap64 (x9_2 + 1)) t379 t382 t385 t389 t392 t395 t399 t402 t405) = some r := by rw [if_pos rfl] at H; exact H
                       clear H
                       have H := H1
                       clear H1
                       have H' := Aside0.mk H
                       clear H
                       have hnb67 := NB398_388.out
                       have hnc67 := NB388_398.out
                       have hnb68 := NB398_408.out
                       have hnc68 := NB408_398.out
                       have hcz69_0 : wr.cell? ⟨gb398, 0, none⟩ = some (.slice Ao32 t389.length co32) := (blk_cell BK398.out 0).trans rfl
                       have hcz69_1 : wr.cell? ⟨gb398, 1, none⟩ = some (.slice Ao35 t392.length co35) := (blk_cell BK398.out 1).trans rfl
                       have hcz69_2 : wr.cell? ⟨gb398, 2, none⟩ = some (.slice Ao36 t395.length co36) := (blk_cell BK398.out 2).trans rfl
                       have hfz69_0 := blk_frozen BK398.out 0
                       have hfz69_1 := blk_frozen BK398.out 1
                       have hfz69_2 := blk_frozen BK398.out 2
                       go_wp2
                       repeat (go_quiet (fail); try go_wp2)
                       go_roundg k3
                       case measure => have := HJ4.out; have := HK2.out; have := HK3.out; omega
                       case rel => exact ⟨(x8_2), (wrap64 (x9_2 + 1)), (by first | rfl | (simp; done) | (simp [*]; done)), H', ⟨by have := HJ4.out; have := HK2.out; have := HK3.out; omega⟩, ⟨by (with_reducible repeat (first | apply Kd.R_alloc | apply Kd.R_drewN | apply Kd.R_drew)); exact HO_8.out⟩, ⟨by (with_reducible repeat (first | apply Kd.R_alloc | apply Kd.R_drewN | apply Kd.R_drew)); exact HO_389000.out⟩, ⟨by (with_reducible repeat (first | apply Kd.R_alloc | apply Kd.R_drewN | apply Kd.R_drew)); exact HO_389001.out⟩, ⟨by (with_reducible repeat (first | apply Kd.R_alloc | apply Kd.R_drewN | apply Kd.R_drew)); exact HO_389002.out⟩, ⟨by (with_reducible repeat (first | apply Kd.R_alloc | apply Kd.R_drewN | apply Kd.R_drew)); exact HO_399000.out⟩, ⟨by (with_reducible repeat (first | apply Kd.R_alloc | apply Kd.R_drewN | apply Kd.R_drew)); exact HO_399001.out⟩, ⟨by (with_reducible repeat (first | apply Kd.R_alloc | apply Kd.R_drewN | apply Kd.R_drew)); exact HO_399002.out⟩, ⟨by (with_reducible repeat (first | apply Kd.R_alloc | apply Kd.R_drewN | apply Kd.R_drew)); exact HO_409000.out⟩, ⟨by (with_reducible repeat (first | apply Kd.R_alloc | apply Kd.R_drewN | apply Kd.R_drew)); exact HO_409001.out⟩, ⟨by (with_reducible repeat (first | apply Kd.R_alloc | apply Kd.R_drewN | apply Kd.R_drew)); exact HO_409002.out⟩, ⟨by (with_reducible repeat (first | refine blk_drewN ?_ _ | refine blk_drew ?_ | refine blk_alloc ?_ _)); exact BK388.out⟩, ⟨by (with_reducible repeat (first | refine blk_drewN ?_ _ | refine blk_drew ?_ | refine blk_alloc ?_ _)); exact BK398.out⟩, ⟨by (with_reducible repeat (first | refine blk_drewN ?_ _ | refine blk_drew ?_ | refine blk_alloc ?_ _)); exact BK408.out⟩, ⟨by repeat (first | (with_reducible first | exact HB.out | apply below_alloc | apply pw_below_drewN | apply below_drew1 | refine below_set ?_ GE388.out | refine below_set ?_ GE398.out | refine below_set ?_ GE408.out) | exact HB.out)⟩⟩
                     · replace c66 := Bool.eq_false_iff.mpr c66
                       subst c66
                       have H1 : (if 0 ≤ x9_2 then (if x9_2 < (t402.length : Int) then (if x8_2.length < 5864062014805 then (seneschallaw17_PastJoins.l0 k3 (x8_2 ++ [(⟨(rd_T24 t402 x9_2).f0, (rd_T24 t402 x9_2).f1, (rd_T24 t402 x9_2).f2⟩ : S24)]) (wrap64 (x9_2 + 1)) t379 t382 t385 t389 t392 t395 t399 t402 t405) else (none)) else (none)) else (none)) = some r := by rw [if_neg (show ¬ (false = true) by decide)] at H; exact H
                       clear H
                       have H := H1
                       clear H1
                       by_cases c70 : 0 ≤ x9_2
                       · rw [if_pos c70] at H
                         have c70b0 : decide (0 ≤ x9_2) = true := decide_eq_true c70
                         clear c70
                         by_cases c71 : x9_2 < (t402.length : Int)
                         · rw [if_pos c71] at H
                           have c71b0 : decide (x9_2 < (t402.length : Int)) = true := decide_eq_true c71
                           clear c71
                           by_cases c72 : x8_2.length < 5864062014805
                           · rw [if_pos c72] at H
                             have LMc72 := Aside0.mk c72
                             clear c72
                             obtain ⟨y418, hy418⟩ : ∃ y_ : List (S24), y_ = (x8_2 ++ [(⟨(rd_T24 t402 x9_2).f0, (rd_T24 t402 x9_2).f1, (rd_T24 t402 x9_2).f2⟩ : S24)]) := ⟨_, rfl⟩
                             replace H : (seneschallaw17_PastJoins.l0 k3 y418 (wrap64 (x9_2 + 1)) t379 t382 t385 t389 t392 t395 t399 t402 t405) = some r := by first | (rw [hy418]; with_reducible exact H) | (have H2_ := (Option.bind_some _ _).symm.trans H; rw [hy418]; with_reducible exact H2_) | (have H2_ := (Option.bind_some _ _).symm.trans H; with_reducible exact H2_) | with_reducible exact H | (rw [hy418]; exact H) | exact H
                             have Ny418 := Aside0.mk hy418
                             clear hy418
                             have H' := Aside0.mk H
                             clear H
                             have hnb73 := NB398_388.out
                             have hnc73 := NB388_398.out
                             have hnb74 := NB398_408.out
                             have hnc74 := NB408_398.out
                             have hcz75_0 : wr.cell? ⟨gb398, 0, none⟩ = some (.slice Ao32 t389.length co32) := (blk_cell BK398.out 0).trans rfl
                             have hcz75_1 : wr.cell? ⟨gb398, 1, none⟩ = some (.slice Ao35 t392.length co35) := (blk_cell BK398.out 1).trans rfl
                             have hcz75_2 : wr.cell? ⟨gb398, 2, none⟩ = some (.slice Ao36 t395.length co36) := (blk_cell BK398.out 2).trans rfl
                             have hfz75_0 := blk_frozen BK398.out 0
                             have hfz75_1 := blk_frozen BK398.out 1
                             have hfz75_2 := blk_frozen BK398.out 2
                             have hnb76 := NB408_388.out
                             have hnc76 := NB388_408.out
                             have hcz77_0 : wr.cell? ⟨gb408, 0, none⟩ = some (.slice Ao39 t399.length co39) := (blk_cell BK408.out 0).trans rfl
                             have hcz77_1 : wr.cell? ⟨gb408, 1, none⟩ = some (.slice Ao43 t402.length co43) := (blk_cell BK408.out 1).trans rfl
                             have hcz77_2 : wr.cell? ⟨gb408, 2, none⟩ = some (.slice Ao44 t405.length co44) := (blk_cell BK408.out 2).trans rfl
                             have hfz77_0 := blk_frozen BK408.out 0
                             have hfz77_1 := blk_frozen BK408.out 1
                             have hfz77_2 := blk_frozen BK408.out 2
                             have p417 : 0 ≤ (x9_2 : Int) := of_decide_eq_true (by first | (with_reducible assumption) | assumption)
                             have q417 : x9_2 < (t402.length : Int) := of_decide_eq_true (by first | (with_reducible assumption) | assumption)
                             obtain ⟨ad417, e417, hx417_0, hx417_1, hx417_2⟩ := at_T24 (Kd.R_reads' HO_409001.out).2.2 x9_2 p417 q417
                             cases e417
                             replace p417 := eq_true p417
                             replace q417 := eq_true q417
                             go_wp2_with (first | ((with_reducible refine gate_builtin (b := .append) (xs := #[.tmp 82, .tmp 88]) rfl ?_); (try (refine gate_guard (by rfl) ?_; dsimp only)); at_builtin; refine Kd.R_append k24 (w0 := w) w.heap.size rfl (.tmp 82) (.tmp 88) 34 24 (.agg #[(.int .i64 0), (.int .i64 0), (.int .i64 0)]) 24 rfl Try.underlying34 info24 rfl (by decide) (by omega) u8 x8_2 (⟨(rd_T24 t402 x9_2).f0, (rd_T24 t402 x9_2).f1, (rd_T24 t402 x9_2).f2⟩ : S24) [.int .i64 ((rd_T24 t402 x9_2).f0), .int .i64 ((rd_T24 t402 x9_2).f1), .int .i64 ((rd_T24 t402 x9_2).f2)] (fun k_ => some k_ ≠ (.slice Ao28 t382.length co28 : Value).ownBlock ∧ some k_ ≠ (.slice Ao35 t392.length co35 : Value).ownBlock ∧ some k_ ≠ (.slice (some ad417) t402.length co43 : Value).ownBlock) (fun _ => False) rfl rfl ?aP (fun _ hk => hk.elim) ?aF ?aO ?aB ?aS ?aL ?_; (case aP => exact k24_mkM _ _ _ (⟨(rd_T24 t402 x9_2).f0, (rd_T24 t402 x9_2).f1, (rd_T24 t402 x9_2).f2⟩ : S24)); (case aB => exact (by repeat (first | (with_reducible first | exact HB.out | apply below_alloc | apply pw_below_drewN | apply below_drew1 | refine below_set ?_ GE388.out | refine below_set ?_ GE398.out | refine below_set ?_ GE408.out) | exact HB.out))); (case aF => exact (fun k_ hk => ⟨Kd.fresh' (Kd.R_lt (by (with_reducible repeat (first | apply Kd.R_alloc | apply Kd.R_drewN | apply Kd.R_drew)); exact HO_389001.out)) k_ hk, Kd.fresh' (Kd.R_lt (by (with_reducible repeat (first | apply Kd.R_alloc | apply Kd.R_drewN | apply Kd.R_drew)); exact HO_399001.out)) k_ hk, Kd.fresh' (Kd.R_lt (by (with_reducible repeat (first | apply Kd.R_alloc | apply Kd.R_drewN | apply Kd.R_drew)); exact HO_409001.out)) k_ hk⟩)); (case aO => exact (by (with_reducible repeat (first | apply Kd.R_alloc | apply Kd.R_drewN | apply Kd.R_drew)); exact HO_8.out)); (case aS => exact (below_size (by repeat (first | (with_reducible first | exact HB.out | apply below_alloc | apply pw_below_drewN | apply below_drew1 | refine below_set ?_ GE388.out | refine below_set ?_ GE398.out | refine below_set ?_ GE408.out) | exact HB.out)))); (case aL => have := LMc72.out; omega); intro v419 w78 ho hb hg hat; rw [← Ny418.out] at ho; have n0_ := Aside0.mk (Kd.R_over' (by (with_reducible repeat (first | apply Kd.R_alloc | apply Kd.R_drewN | apply Kd.R_drew)); exact HO_389000.out) (Kd.R_typed (by (with_reducible repeat (first | apply Kd.R_alloc | apply Kd.R_drewN | apply Kd.R_drew)); exact HO_8.out)) (by decide) hg); have n1_ := Aside0.mk (Kd.R_after (ok := (fun k_ => some k_ ≠ (.slice Ao35 t392.length co35 : Value).ownBlock ∧ some k_ ≠ (.slice (some ad417) t402.length co43 : Value).ownBlock)) (by (with_reducible repeat (first | apply Kd.R_alloc | apply Kd.R_drewN | apply Kd.R_drew)); exact Kd.R_mono HO_389001.out (fun _ hk => ⟨⟨hk.2.1, hk.2.2⟩, hk.1⟩)) hg hat); have n2_ := Aside0.mk (Kd.R_over' (by (with_reducible repeat (first | apply Kd.R_alloc | apply Kd.R_drewN | apply Kd.R_drew)); exact HO_389002.out) (Kd.R_typed (by (with_reducible repeat (first | apply Kd.R_alloc | apply Kd.R_drewN | apply Kd.R_drew)); exact HO_8.out)) (by decide) hg); have n3_ := Aside0.mk (Kd.R_over' (by (with_reducible repeat (first | apply Kd.R_alloc | apply Kd.R_drewN | apply Kd.R_drew)); exact HO_399000.out) (Kd.R_typed (by (with_reducible repeat (first | apply Kd.R_alloc | apply Kd.R_drewN | apply Kd.R_drew)); exact HO_8.out)) (by decide) hg); have n4_ := Aside0.mk (Kd.R_after (ok := (fun k_ => some k_ ≠ (.slice Ao28 t382.length co28 : Value).ownBlock ∧ some k_ ≠ (.slice (some ad417) t402.length co43 : Value).ownBlock)) (by (with_reducible repeat (first | apply Kd.R_alloc | apply Kd.R_drewN | apply Kd.R_drew)); exact Kd.R_mono HO_399001.out (fun _ hk => ⟨⟨hk.2.1, hk.2.2⟩, hk.1⟩)) hg hat); have n5_ := Aside0.mk (Kd.R_over' (by (with_reducible repeat (first | apply Kd.R_alloc | apply Kd.R_drewN | apply Kd.R_drew)); exact HO_399002.out) (Kd.R_typed (by (with_reducible repeat (first | apply Kd.R_alloc | apply Kd.R_drewN | apply Kd.R_drew)); exact HO_8.out)) (by decide) hg); have n6_ := Aside0.mk (Kd.R_over' (by (with_reducible repeat (first | apply Kd.R_alloc | apply Kd.R_drewN | apply Kd.R_drew)); exact HO_409000.out) (Kd.R_typed (by (with_reducible repeat (first | apply Kd.R_alloc | apply Kd.R_drewN | apply Kd.R_drew)); exact HO_8.out)) (by decide) hg); have n7_ := Aside0.mk (Kd.R_after (ok := (fun k_ => some k_ ≠ (.slice Ao28 t382.length co28 : Value).ownBlock ∧ some k_ ≠ (.slice Ao35 t392.length co35 : Value).ownBlock)) (by (with_reducible repeat (first | apply Kd.R_alloc | apply Kd.R_drewN | apply Kd.R_drew)); exact Kd.R_mono HO_409001.out (fun _ hk => ⟨⟨hk.2.1, hk.2.2⟩, hk.1⟩)) hg hat); have n8_ := Aside0.mk (Kd.R_over' (by (with_reducible repeat (first | apply Kd.R_alloc | apply Kd.R_drewN | apply Kd.R_drew)); exact HO_409002.out) (Kd.R_typed (by (with_reducible repeat (first | apply Kd.R_alloc | apply Kd.R_drewN | apply Kd.R_drew)); exact HO_8.out)) (by decide) hg); have n9_ := Aside0.mk (blk_grown (g := gb388) (o := .cells #[.slice Ao26 t379.length co26, .slice Ao28 t382.length co28, .slice Ao29 t385.length co29] 37 (0, 0)) (by (with_reducible repeat (first | refine blk_drewN ?_ _ | refine blk_drew ?_ | refine blk_alloc ?_ _)); exact BK388.out) hg (Kd.R_ne HO_8.out BK388.out (by decide))); have n10_ := Aside0.mk (blk_grown (g := gb398) (o := .cells #[.slice Ao32 t389.length co32, .slice Ao35 t392.length co35, .slice Ao36 t395.length co36] 37 (0, 0)) (by (with_reducible repeat (first | refine blk_drewN ?_ _ | refine blk_drew ?_ | refine blk_alloc ?_ _)); exact BK398.out) hg (Kd.R_ne HO_8.out BK398.out (by decide))); have n11_ := Aside0.mk (blk_grown (g := gb408) (o := .cells #[.slice Ao39 t399.length co39, .slice (some ad417) t402.length co43, .slice Ao44 t405.length co44] 37 (0, 0)) (by (with_reducible repeat (first | refine blk_drewN ?_ _ | refine blk_drew ?_ | refine blk_alloc ?_ _)); exact BK408.out) hg (Kd.R_ne HO_8.out BK408.out (by decide))); have n12_ := Aside0.mk (hb); have n13_ := Aside0.mk (ho); clear HO_389000; clear HO_389001; clear HO_389002; clear HO_399000; clear HO_399001; clear HO_399002; clear HO_409000; clear HO_409001; clear HO_409002; clear BK388; clear BK398; clear BK408; clear HB; clear HO_8; have HO_389000 := n0_; have HO_389001 := n1_; have HO_389002 := n2_; have HO_399000 := n3_; have HO_399001 := n4_; have HO_399002 := n5_; have HO_409000 := n6_; have HO_409001 := n7_; have HO_409002 := n8_; have BK388 := n9_; have BK398 := n10_; have BK408 := n11_; have HB := n12_; have HO420 := n13_; clear n0_ n1_ n2_ n3_ n4_ n5_ n6_ n7_ n8_ n9_ n10_ n11_ n12_ n13_; clear ho hb hg hat))
                             repeat (go_quiet (fail); try go_wp2_with (fail))
                             go_roundg k3
                             case measure => have := HJ4.out; have := HK2.out; have := HK3.out; omega
                             case rel => exact ⟨(y418), (wrap64 (x9_2 + 1)), (by first | rfl | (simp; done) | (simp [*]; done)), H', ⟨by have := HJ4.out; have := HK2.out; have := HK3.out; omega⟩, ⟨by (with_reducible repeat (first | apply Kd.R_alloc | apply Kd.R_drewN | apply Kd.R_drew)); exact HO420.out⟩, ⟨by (with_reducible repeat (first | apply Kd.R_alloc | apply Kd.R_drewN | apply Kd.R_drew)); exact HO_389000.out⟩, ⟨by (with_reducible repeat (first | apply Kd.R_alloc | apply Kd.R_drewN | apply Kd.R_drew)); exact Kd.R_mono HO_389001.out (fun _ hk => ⟨hk.2, ⟨hk.1.1, hk.1.2⟩⟩)⟩, ⟨by (with_reducible repeat (first | apply Kd.R_alloc | apply Kd.R_drewN | apply Kd.R_drew)); exact HO_389002.out⟩, ⟨by (with_reducible repeat (first | apply Kd.R_alloc | apply Kd.R_drewN | apply Kd.R_drew)); exact HO_399000.out⟩, ⟨by (with_reducible repeat (first | apply Kd.R_alloc | apply Kd.R_drewN | apply Kd.R_drew)); exact Kd.R_mono HO_399001.out (fun _ hk => ⟨hk.2, ⟨hk.1.1, hk.1.2⟩⟩)⟩, ⟨by (with_reducible repeat (first | apply Kd.R_alloc | apply Kd.R_drewN | apply Kd.R_drew)); exact HO_399002.out⟩, ⟨by (with_reducible repeat (first | apply Kd.R_alloc | apply Kd.R_drewN | apply Kd.R_drew)); exact HO_409000.out⟩, ⟨by (with_reducible repeat (first | apply Kd.R_alloc | apply Kd.R_drewN | apply Kd.R_drew)); exact Kd.R_mono HO_409001.out (fun _ hk => ⟨hk.2, ⟨hk.1.1, hk.1.2⟩⟩)⟩, ⟨by (with_reducible repeat (first | apply Kd.R_alloc | apply Kd.R_drewN | apply Kd.R_drew)); exact HO_409002.out⟩, ⟨by (with_reducible repeat (first | refine blk_drewN ?_ _ | refine blk_drew ?_ | refine blk_alloc ?_ _)); exact BK388.out⟩, ⟨by (with_reducible repeat (first | refine blk_drewN ?_ _ | refine blk_drew ?_ | refine blk_alloc ?_ _)); exact BK398.out⟩, ⟨by (with_reducible repeat (first | refine blk_drewN ?_ _ | refine blk_drew ?_ | refine blk_alloc ?_ _)); exact BK408.out⟩, ⟨by repeat (first | (with_reducible first | exact HB.out | apply below_alloc | apply pw_below_drewN | apply below_drew1 | refine below_set ?_ GE388.out | refine below_set ?_ GE398.out | refine below_set ?_ GE408.out) | exact HB.out)⟩⟩
                           · rw [if_neg c72] at H
                             exact absurd H (by simp)
                         · rw [if_neg c71] at H
                           exact absurd H (by simp)
                       · rw [if_neg c70] at H
                         exact absurd H (by simp)
               · rw [if_neg c49] at H
                 have c49b0 : decide (x9_2 < (t402.length : Int)) = false := decide_eq_false c49
                 clear c49
                 by_cases c79 : (t382.length : Int) = (x8_2.length : Int)
                 · rw [if_pos c79] at H
                   have c79b0 : ((t382.length : Int) == (x8_2.length : Int)) = true := beq_iff_eq.mpr c79
                   have c79b1 : ((t382.length : Int) != (x8_2.length : Int)) = false := bne_eq_false_iff_eq.mpr c79
                   have c79b2 : (t382.length == x8_2.length) = true := by first | simpa using c79 | (simp at c79 ⊢; omega)
                   clear c79
                   have H' := Aside0.mk H
                   clear H
                   have hnb80 := NB408_388.out
                   have hnc80 := NB388_408.out
                   have hnb81 := NB408_398.out
                   have hnc81 := NB398_408.out
                   have hcz82_0 : wr.cell? ⟨gb408, 0, none⟩ = some (.slice Ao39 t399.length co39) := (blk_cell BK408.out 0).trans rfl
                   have hcz82_1 : wr.cell? ⟨gb408, 1, none⟩ = some (.slice Ao43 t402.length co43) := (blk_cell BK408.out 1).trans rfl
                   have hcz82_2 : wr.cell? ⟨gb408, 2, none⟩ = some (.slice Ao44 t405.length co44) := (blk_cell BK408.out 2).trans rfl
                   have hfz82_0 := blk_frozen BK408.out 0
                   have hfz82_1 := blk_frozen BK408.out 1
                   have hfz82_2 := blk_frozen BK408.out 2
                   have hnb83 := NB388_398.out
                   have hnc83 := NB398_388.out
                   have hcz84_0 : wr.cell? ⟨gb388, 0, none⟩ = some (.slice Ao26 t379.length co26) := (blk_cell BK388.out 0).trans rfl
                   have hcz84_1 : wr.cell? ⟨gb388, 1, none⟩ = some (.slice Ao28 t382.length co28) := (blk_cell BK388.out 1).trans rfl
                   have hcz84_2 : wr.cell? ⟨gb388, 2, none⟩ = some (.slice Ao29 t385.length co29) := (blk_cell BK388.out 2).trans rfl
                   have hfz84_0 := blk_frozen BK388.out 0
                   have hfz84_1 := blk_frozen BK388.out 1
                   have hfz84_2 := blk_frozen BK388.out 2
                   obtain ⟨Ao85, co85, eo85⟩ := Kd.R_slice HO_8.out
                   subst eo85
                   go_wp2
                   repeat (go_quiet (fail); try go_wp2)
                   go_loopg [12] k2 (fun kq v12 w' => ∃ (x12_3 : Int), v12 = .int .i64 x12_3 ∧ Aside0 (seneschallaw17_PastJoins.l2 kq x8_2 x12_3 t379 t382 t385 t389 t392 t395 t399 t402 t405 = some r) ∧ Aside0 (kq ≤ k2) ∧ Aside0 (Kd.R k24 24 w' w.heap.size (fun k_ => some k_ ≠ ((.slice Ao28 t382.length co28) : Value).ownBlock ∧ some k_ ≠ ((.slice Ao35 t392.length co35) : Value).ownBlock ∧ some k_ ≠ ((.slice Ao43 t402.length co43) : Value).ownBlock) (.slice Ao85 x8_2.length co85) x8_2) ∧ Aside0 (Kd.R k43 43 w' w.heap.size (fun k_ => some k_ ≠ ((.slice Ao32 t389.length co32) : Value).ownBlock ∧ some k_ ≠ ((.slice Ao39 t399.length co39) : Value).ownBlock) (.slice Ao26 t379.length co26) t379) ∧ Aside0 (Kd.R k24 24 w' w.heap.size (fun k_ => some k_ ≠ ((.slice Ao85 x8_2.length co85) : Value).ownBlock ∧ some k_ ≠ ((.slice Ao35 t392.length co35) : Value).ownBlock ∧ some k_ ≠ ((.slice Ao43 t402.length co43) : Value).ownBlock) (.slice Ao28 t382.length co28) t382) ∧ Aside0 (Kd.R k45 45 w' w.heap.size (fun k_ => some k_ ≠ ((.slice Ao36 t395.length co36) : Value).ownBlock ∧ some k_ ≠ ((.slice Ao44 t405.length co44) : Value).ownBlock) (.slice Ao29 t385.length co29) t385) ∧ Aside0 (Kd.R k43 43 w' w.heap.size (fun k_ => some k_ ≠ ((.slice Ao26 t379.length co26) : Value).ownBlock ∧ some k_ ≠ ((.slice Ao39 t399.length co39) : Value).ownBlock) (.slice Ao32 t389.length co32) t389) ∧ Aside0 (Kd.R k24 24 w' w.heap.size (fun k_ => some k_ ≠ ((.slice Ao85 x8_2.length co85) : Value).ownBlock ∧ some k_ ≠ ((.slice Ao28 t382.length co28) : Value).ownBlock ∧ some k_ ≠ ((.slice Ao43 t402.length co43) : Value).ownBlock) (.slice Ao35 t392.length co35) t392) ∧ Aside0 (Kd.R k45 45 w' w.heap.size (fun k_ => some k_ ≠ ((.slice Ao29 t385.length co29) : Value).ownBlock ∧ some k_ ≠ ((.slice Ao44 t405.length co44) : Value).ownBlock) (.slice Ao36 t395.length co36) t395) ∧ Aside0 (Kd.R k43 43 w' w.heap.size (fun k_ => some k_ ≠ ((.slice Ao26 t379.length co26) : Value).ownBlock ∧ some k_ ≠ ((.slice Ao32 t389.length co32) : Value).ownBlock) (.slice Ao39 t399.length co39) t399) ∧ Aside0 (Kd.R k24 24 w' w.heap.size (fun k_ => some k_ ≠ ((.slice Ao85 x8_2.length co85) : Value).ownBlock ∧ some k_ ≠ ((.slice Ao28 t382.length co28) : Value).ownBlock ∧ some k_ ≠ ((.slice Ao35 t392.length co35) : Value).ownBlock) (.slice Ao43 t402.length co43) t402) ∧ Aside0 (Kd.R k45 45 w' w.heap.size (fun k_ => some k_ ≠ ((.slice Ao29 t385.length co29) : Value).ownBlock ∧ some k_ ≠ ((.slice Ao36 t395.length co36) : Value).ownBlock) (.slice Ao44 t405.length co44) t405) ∧ Aside0 (w'.heap[gb388]? = some (.cells #[(.slice Ao26 t379.length co26), (.slice Ao28 t382.length co28), (.slice Ao29 t385.length co29)] 37 (0, 0))) ∧ Aside0 (w'.heap[gb398]? = some (.cells #[(.slice Ao32 t389.length co32), (.slice Ao35 t392.length co35), (.slice Ao36 t395.length co36)] 37 (0, 0))) ∧ Aside0 (w'.heap[gb408]? = some (.cells #[(.slice Ao39 t399.length co39), (.slice Ao43 t402.length co43), (.slice Ao44 t405.length co44)] 37 (0, 0))) ∧ Aside0 (Below w.heap.size w w'))
                   case atStart => exact ⟨(0), (by first | rfl | (simp; done) | (simp [*]; done)), H', ⟨Nat.le_refl _⟩, ⟨by (with_reducible repeat (first | apply Kd.R_alloc | apply Kd.R_drewN | apply Kd.R_drew)); exact HO_8.out⟩, ⟨by (with_reducible repeat (first | apply Kd.R_alloc | apply Kd.R_drewN | apply Kd.R_drew)); exact HO_389000.out⟩, ⟨by (with_reducible repeat (first | apply Kd.R_alloc | apply Kd.R_drewN | apply Kd.R_drew)); exact HO_389001.out⟩, ⟨by (with_reducible repeat (first | apply Kd.R_alloc | apply Kd.R_drewN | apply Kd.R_drew)); exact HO_389002.out⟩, ⟨by (with_reducible repeat (first | apply Kd.R_alloc | apply Kd.R_drewN | apply Kd.R_drew)); exact HO_399000.out⟩, ⟨by (with_reducible repeat (first | apply Kd.R_alloc | apply Kd.R_drewN | apply Kd.R_drew)); exact HO_399001.out⟩, ⟨by (with_reducible repeat (first | apply Kd.R_alloc | apply Kd.R_drewN | apply Kd.R_drew)); exact HO_399002.out⟩, ⟨by (with_reducible repeat (first | apply Kd.R_alloc | apply Kd.R_drewN | apply Kd.R_drew)); exact HO_409000.out⟩, ⟨by (with_reducible repeat (first | apply Kd.R_alloc | apply Kd.R_drewN | apply Kd.R_drew)); exact HO_409001.out⟩, ⟨by (with_reducible repeat (first | apply Kd.R_alloc | apply Kd.R_drewN | apply Kd.R_drew)); exact HO_409002.out⟩, ⟨by (with_reducible repeat (first | refine blk_drewN ?_ _ | refine blk_drew ?_ | refine blk_alloc ?_ _)); exact BK388.out⟩, ⟨by (with_reducible repeat (first | refine blk_drewN ?_ _ | refine blk_drew ?_ | refine blk_alloc ?_ _)); exact BK398.out⟩, ⟨by (with_reducible repeat (first | refine blk_drewN ?_ _ | refine blk_drew ?_ | refine blk_alloc ?_ _)); exact BK408.out⟩, ⟨by repeat (first | (with_reducible first | exact HB.out | apply below_alloc | apply pw_below_drewN | apply below_drew1 | refine below_set ?_ GE388.out | refine below_set ?_ GE398.out | refine below_set ?_ GE408.out) | exact HB.out)⟩⟩
                   case round =>
                    clear H'
                    try clear c1
                    try clear p2
                    try clear c3
                    try clear c4
                    try clear p4
                    try clear q4
                    try clear hx4
                    try clear c5
                    try clear c6
                    try clear p6
                    try clear c7
                    try clear c7b0
                    try clear c7b1
                    try clear c8
                    try clear c8b0
                    try clear c8b1
                    try clear c10
                    try clear c12
                    try clear c13
                    try clear c14
                    try clear c18
                    try clear c33
                    try clear c40
                    try clear c41
                    try clear p41
                    try clear q41
                    try clear hx41
                    try clear c49
                    try clear c49b0
                    try clear c50
                    try clear c51
                    try clear c53
                    try clear c53b0
                    try clear c54
                    try clear c55
                    try clear c56
                    try clear c58
                    try clear c58b0
                    try clear c59
                    try clear c59b0
                    try clear c60
                    try clear c60b0
                    try clear c61
                    try clear c62
                    try clear c64
                    try clear p64
                    try clear c66
                    try clear c67
                    try clear c68
                    try clear c70
                    try clear c70b0
                    try clear c71
                    try clear c71b0
                    try clear c72
                    try clear c73
                    try clear c74
                    try clear c76
                    try clear c79
                    try clear c79b0
                    try clear c79b1
                    try clear c79b2
                    try clear c80
                    try clear c81
                    try clear c83
                    try clear hcz27_0
                    try clear hcz27_1
                    try clear hcz27_2
                    try clear hcz34_0
                    try clear hcz34_1
                    try clear hcz34_2
                    try clear hcz42_0
                    try clear hcz42_1
                    try clear hcz42_2
                    try clear hcz47_0
                    try clear hcz47_1
                    try clear hcz47_2
                    try clear hcz52_0
                    try clear hcz52_1
                    try clear hcz52_2
                    try clear hcz57_0
                    try clear hcz57_1
                    try clear hcz57_2
                    try clear hcz63_0
                    try clear hcz63_1
                    try clear hcz63_2
                    try clear hcz65_0
                    try clear hcz65_1
                    try clear hcz65_2
                    try clear hcz69_0
                    try clear hcz69_1
                    try clear hcz69_2
                    try clear hcz75_0
                    try clear hcz75_1
                    try clear hcz75_2
                    try clear hcz77_0
                    try clear hcz77_1
                    try clear hcz77_2
                    try clear hcz82_0
                    try clear hcz82_1
                    try clear hcz82_2
                    try clear hcz84_0
                    try clear hcz84_1
                    try clear hcz84_2
                    try clear hfz27_0
                    try clear hfz27_1
                    try clear hfz27_2
                    try clear hfz34_0
                    try clear hfz34_1
                    try clear hfz34_2
                    try clear hfz42_0
                    try clear hfz42_1
                    try clear hfz42_2
                    try clear hfz47_0
                    try clear hfz47_1
                    try clear hfz47_2
                    try clear hfz52_0
                    try clear hfz52_1
                    try clear hfz52_2
                    try clear hfz57_0
                    try clear hfz57_1
                    try clear hfz57_2
                    try clear hfz63_0
                    try clear hfz63_1
                    try clear hfz63_2
                    try clear hfz65_0
                    try clear hfz65_1
                    try clear hfz65_2
                    try clear hfz69_0
                    try clear hfz69_1
                    try clear hfz69_2
                    try clear hfz75_0
                    try clear hfz75_1
                    try clear hfz75_2
                    try clear hfz77_0
                    try clear hfz77_1
                    try clear hfz77_2
                    try clear hfz82_0
                    try clear hfz82_1
                    try clear hfz82_2
                    try clear hfz84_0
                    try clear hfz84_1
                    try clear hfz84_2
                    try clear hx415_0
                    try clear hx415_1
                    try clear hx415_2
                    try clear hx416_0
                    try clear hx416_1
                    try clear hx416_2
                    try clear hx417_0
                    try clear hx417_1
                    try clear hx417_2
                    try clear p2
                    try clear p415
                    try clear p416
                    try clear p417
                    try clear p6
                    try clear q415
                    try clear q416
                    try clear q417
                    obtain ⟨x12_3, rfl, HA, HK3, HO_8, HO_389000, HO_389001, HO_389002, HO_399000, HO_399001, HO_399002, HO_409000, HO_409001, HO_409002, BK388, BK398, BK408, HB⟩ := hrel
                    cases gk with
                    | zero => exact absurd HA.out (by simp [seneschallaw17_PastJoins.l2])
                    | succ k3 =>
                     have H := HA.out
                     clear HA
                     simp only [seneschallaw17_PastJoins.l2] at H
                     by_cases c86 : x12_3 < (x8_2.length : Int)
                     · rw [if_pos c86] at H
                       have c86b0 : decide (x12_3 < (x8_2.length : Int)) = true := decide_eq_true c86
                       clear c86
                       by_cases c87 : 0 ≤ x12_3
                       · rw [if_pos c87] at H
                         have c87b0 : decide (0 ≤ x12_3) = true := decide_eq_true c87
                         clear c87
                         by_cases c88 : x12_3 < (t382.length : Int)
                         · rw [if_pos c88] at H
                           have c88b0 : decide (x12_3 < (t382.length : Int)) = true := decide_eq_true c88
                           clear c88
                           by_cases c89 : (!(((rd_T24 t382 x12_3).f0) == ((rd_T24 x8_2 x12_3).f0)) || (!(((rd_T24 t382 x12_3).f1) == ((rd_T24 x8_2 x12_3).f1)) || (!(((rd_T24 t382 x12_3).f2) == ((rd_T24 x8_2 x12_3).f2))))) = true
                           · rw [if_pos c89] at H
                             have c89b0 : (!(((rd_T24 t382 x12_3).f0) == ((rd_T24 x8_2 x12_3).f0)) || (!(((rd_T24 t382 x12_3).f1) == ((rd_T24 x8_2 x12_3).f1)) || (!(((rd_T24 t382 x12_3).f2) == ((rd_T24 x8_2 x12_3).f2))))) = true := c89
                             clear c89
                             obtain rfl := Option.some.inj H
                             have hnb90 := NB388_398.out
                             have hnc90 := NB398_388.out
                             have hnb91 := NB388_408.out
                             have hnc91 := NB408_388.out
                             have hcz92_0 : wr.cell? ⟨gb388, 0, none⟩ = some (.slice Ao26 t379.length co26) := (blk_cell BK388.out 0).trans rfl
                             have hcz92_1 : wr.cell? ⟨gb388, 1, none⟩ = some (.slice Ao28 t382.length co28) := (blk_cell BK388.out 1).trans rfl
                             have hcz92_2 : wr.cell? ⟨gb388, 2, none⟩ = some (.slice Ao29 t385.length co29) := (blk_cell BK388.out 2).trans rfl
                             have hfz92_0 := blk_frozen BK388.out 0
                             have hfz92_1 := blk_frozen BK388.out 1
                             have hfz92_2 := blk_frozen BK388.out 2
                             have p421 : 0 ≤ (x12_3 : Int) := of_decide_eq_true (by first | (with_reducible assumption) | assumption)
                             have q421 : x12_3 < (t382.length : Int) := of_decide_eq_true (by first | (with_reducible assumption) | assumption)
                             obtain ⟨ad421, e421, hx421_0, hx421_1, hx421_2⟩ := at_T24 (Kd.R_reads' HO_389001.out).2.2 x12_3 p421 q421
                             cases e421
                             replace p421 := eq_true p421
                             replace q421 := eq_true q421
                             have p422 : 0 ≤ (x12_3 : Int) := of_decide_eq_true (by first | (with_reducible assumption) | assumption)
                             have q422 : x12_3 < (x8_2.length : Int) := of_decide_eq_true (by first | (with_reducible assumption) | assumption)
                             obtain ⟨ad422, e422, hx422_0, hx422_1, hx422_2⟩ := at_T24 (Kd.R_reads' HO_8.out).2.2 x12_3 p422 q422
                             cases e422
                             replace p422 := eq_true p422
                             replace q422 := eq_true q422
                             go_wp2
                             repeat (go_quiet (fail); try go_wp2)
                             go_ret
                             exact ⟨by first | rfl | (simp [errW_none, errW_some] <;> rfl) | (simp [*, errW_none, errW_some] <;> rfl), by repeat (first | (with_reducible first | exact HB.out | apply below_alloc | apply pw_below_drewN | apply below_drew1 | refine below_set ?_ GE388.out | refine below_set ?_ GE398.out | refine below_set ?_ GE408.out) | exact HB.out)⟩
                           · rw [if_neg c89] at H
                             have c89b0 : (!(((rd_T24 t382 x12_3).f0) == ((rd_T24 x8_2 x12_3).f0)) || (!(((rd_T24 t382 x12_3).f1) == ((rd_T24 x8_2 x12_3).f1)) || (!(((rd_T24 t382 x12_3).f2) == ((rd_T24 x8_2 x12_3).f2))))) = false := by simpa using c89
                             clear c89
                             have H' := Aside0.mk H
                             clear H
                             have hnb93 := NB388_398.out
                             have hnc93 := NB398_388.out
                             have hnb94 := NB388_408.out
                             have hnc94 := NB408_388.out
                             have hcz95_0 : wr.cell? ⟨gb388, 0, none⟩ = some (.slice Ao26 t379.length co26) := (blk_cell BK388.out 0).trans rfl
                             have hcz95_1 : wr.cell? ⟨gb388, 1, none⟩ = some (.slice Ao28 t382.length co28) := (blk_cell BK388.out 1).trans rfl
                             have hcz95_2 : wr.cell? ⟨gb388, 2, none⟩ = some (.slice Ao29 t385.length co29) := (blk_cell BK388.out 2).trans rfl
                             have hfz95_0 := blk_frozen BK388.out 0
                             have hfz95_1 := blk_frozen BK388.out 1
                             have hfz95_2 := blk_frozen BK388.out 2
                             have p421 : 0 ≤ (x12_3 : Int) := of_decide_eq_true (by first | (with_reducible assumption) | assumption)
                             have q421 : x12_3 < (t382.length : Int) := of_decide_eq_true (by first | (with_reducible assumption) | assumption)
                             obtain ⟨ad421, e421, hx421_0, hx421_1, hx421_2⟩ := at_T24 (Kd.R_reads' HO_389001.out).2.2 x12_3 p421 q421
                             cases e421
                             replace p421 := eq_true p421
                             replace q421 := eq_true q421
                             have p422 : 0 ≤ (x12_3 : Int) := of_decide_eq_true (by first | (with_reducible assumption) | assumption)
                             have q422 : x12_3 < (x8_2.length : Int) := of_decide_eq_true (by first | (with_reducible assumption) | assumption)
                             obtain ⟨ad422, e422, hx422_0, hx422_1, hx422_2⟩ := at_T24 (Kd.R_reads' HO_8.out).2.2 x12_3 p422 q422
                             cases e422
                             replace p422 := eq_true p422
                             replace q422 := eq_true q422
                             go_wp2
                             repeat (go_quiet (fail); try go_wp2)
                             go_roundg k3
                             case measure => have := HJ4.out; have := HK2.out; have := HK3.out; omega
                             case rel => exact ⟨(wrap64 (x12_3 + 1)), (by first | rfl | (simp; done) | (simp [*]; done)), H', ⟨by have := HJ4.out; have := HK2.out; have := HK3.out; omega⟩, ⟨by (with_reducible repeat (first | apply Kd.R_alloc | apply Kd.R_drewN | apply Kd.R_drew)); exact HO_8.out⟩, ⟨by (with_reducible repeat (first | apply Kd.R_alloc | apply Kd.R_drewN | apply Kd.R_drew)); exact HO_389000.out⟩, ⟨by (with_reducible repeat (first | apply Kd.R_alloc | apply Kd.R_drewN | apply Kd.R_drew)); exact HO_389001.out⟩, ⟨by (with_reducible repeat (first | apply Kd.R_alloc | apply Kd.R_drewN | apply Kd.R_drew)); exact HO_389002.out⟩, ⟨by (with_reducible repeat (first | apply Kd.R_alloc | apply Kd.R_drewN | apply Kd.R_drew)); exact HO_399000.out⟩, ⟨by (with_reducible repeat (first | apply Kd.R_alloc | apply Kd.R_drewN | apply Kd.R_drew)); exact HO_399001.out⟩, ⟨by (with_reducible repeat (first | apply Kd.R_alloc | apply Kd.R_drewN | apply Kd.R_drew)); exact HO_399002.out⟩, ⟨by (with_reducible repeat (first | apply Kd.R_alloc | apply Kd.R_drewN | apply Kd.R_drew)); exact HO_409000.out⟩, ⟨by (with_reducible repeat (first | apply Kd.R_alloc | apply Kd.R_drewN | apply Kd.R_drew)); exact HO_409001.out⟩, ⟨by (with_reducible repeat (first | apply Kd.R_alloc | apply Kd.R_drewN | apply Kd.R_drew)); exact HO_409002.out⟩, ⟨by (with_reducible repeat (first | refine blk_drewN ?_ _ | refine blk_drew ?_ | refine blk_alloc ?_ _)); exact BK388.out⟩, ⟨by (with_reducible repeat (first | refine blk_drewN ?_ _ | refine blk_drew ?_ | refine blk_alloc ?_ _)); exact BK398.out⟩, ⟨by (with_reducible repeat (first | refine blk_drewN ?_ _ | refine blk_drew ?_ | refine blk_alloc ?_ _)); exact BK408.out⟩, ⟨by repeat (first | (with_reducible first | exact HB.out | apply below_alloc | apply pw_below_drewN | apply below_drew1 | refine below_set ?_ GE388.out | refine below_set ?_ GE398.out | refine below_set ?_ GE408.out) | exact HB.out)⟩⟩
                         · rw [if_neg c88] at H
                           exact absurd H (by simp)
                       · rw [if_neg c87] at H
                         exact absurd H (by simp)
                     · rw [if_neg c86] at H
                       have c86b0 : decide (x12_3 < (x8_2.length : Int)) = false := decide_eq_false c86
                       clear c86
                       have H' := Aside0.mk H
                       clear H
                       go_wp2
                       repeat (go_quiet (fail); try go_wp2)
                       go_loopg [13] k3 (fun kq v13 w' => ∃ (x13_4 : Int), v13 = .int .i64 x13_4 ∧ Aside0 (seneschallaw17_PastJoins.l3 kq x13_4 t379 t382 t385 t389 t392 t395 t399 t402 t405 = some r) ∧ Aside0 (kq ≤ k3) ∧ Aside0 (Kd.R k43 43 w' w.heap.size (fun k_ => some k_ ≠ ((.slice Ao32 t389.length co32) : Value).ownBlock ∧ some k_ ≠ ((.slice Ao39 t399.length co39) : Value).ownBlock) (.slice Ao26 t379.length co26) t379) ∧ Aside0 (Kd.R k24 24 w' w.heap.size (fun k_ => some k_ ≠ ((.slice Ao35 t392.length co35) : Value).ownBlock ∧ some k_ ≠ ((.slice Ao43 t402.length co43) : Value).ownBlock) (.slice Ao28 t382.length co28) t382) ∧ Aside0 (Kd.R k45 45 w' w.heap.size (fun k_ => some k_ ≠ ((.slice Ao36 t395.length co36) : Value).ownBlock ∧ some k_ ≠ ((.slice Ao44 t405.length co44) : Value).ownBlock) (.slice Ao29 t385.length co29) t385) ∧ Aside0 (Kd.R k43 43 w' w.heap.size (fun k_ => some k_ ≠ ((.slice Ao26 t379.length co26) : Value).ownBlock ∧ some k_ ≠ ((.slice Ao39 t399.length co39) : Value).ownBlock) (.slice Ao32 t389.length co32) t389) ∧ Aside0 (Kd.R k24 24 w' w.heap.size (fun k_ => some k_ ≠ ((.slice Ao28 t382.length co28) : Value).ownBlock ∧ some k_ ≠ ((.slice Ao43 t402.length co43) : Value).ownBlock) (.slice Ao35 t392.length co35) t392) ∧ Aside0 (Kd.R k45 45 w' w.heap.size (fun k_ => some k_ ≠ ((.slice Ao29 t385.length co29) : Value).ownBlock ∧ some k_ ≠ ((.slice Ao44 t405.length co44) : Value).ownBlock) (.slice Ao36 t395.length co36) t395) ∧ Aside0 (Kd.R k43 43 w' w.heap.size (fun k_ => some k_ ≠ ((.slice Ao26 t379.length co26) : Value).ownBlock ∧ some k_ ≠ ((.slice Ao32 t389.length co32) : Value).ownBlock) (.slice Ao39 t399.length co39) t399) ∧ Aside0 (Kd.R k24 24 w' w.heap.size (fun k_ => some k_ ≠ ((.slice Ao28 t382.length co28) : Value).ownBlock ∧ some k_ ≠ ((.slice Ao35 t392.length co35) : Value).ownBlock) (.slice Ao43 t402.length co43) t402) ∧ Aside0 (Kd.R k45 45 w' w.heap.size (fun k_ => some k_ ≠ ((.slice Ao29 t385.length co29) : Value).ownBlock ∧ some k_ ≠ ((.slice Ao36 t395.length co36) : Value).ownBlock) (.slice Ao44 t405.length co44) t405) ∧ Aside0 (w'.heap[gb388]? = some (.cells #[(.slice Ao26 t379.length co26), (.slice Ao28 t382.length co28), (.slice Ao29 t385.length co29)] 37 (0, 0))) ∧ Aside0 (w'.heap[gb398]? = some (.cells #[(.slice Ao32 t389.length co32), (.slice Ao35 t392.length co35), (.slice Ao36 t395.length co36)] 37 (0, 0))) ∧ Aside0 (w'.heap[gb408]? = some (.cells #[(.slice Ao39 t399.length co39), (.slice Ao43 t402.length co43), (.slice Ao44 t405.length co44)] 37 (0, 0))) ∧ Aside0 (Below w.heap.size w w'))
                       case atStart => exact ⟨(0), (by first | rfl | (simp; done) | (simp [*]; done)), H', ⟨Nat.le_refl _⟩, ⟨by (with_reducible repeat (first | apply Kd.R_alloc | apply Kd.R_drewN | apply Kd.R_drew)); exact HO_389000.out⟩, ⟨by (with_reducible repeat (first | apply Kd.R_alloc | apply Kd.R_drewN | apply Kd.R_drew)); exact Kd.R_mono HO_389001.out (fun _ hk => ⟨hk.2.1, hk.2.2⟩)⟩, ⟨by (with_reducible repeat (first | apply Kd.R_alloc | apply Kd.R_drewN | apply Kd.R_drew)); exact HO_389002.out⟩, ⟨by (with_reducible repeat (first | apply Kd.R_alloc | apply Kd.R_drewN | apply Kd.R_drew)); exact HO_399000.out⟩, ⟨by (with_reducible repeat (first | apply Kd.R_alloc | apply Kd.R_drewN | apply Kd.R_drew)); exact Kd.R_mono HO_399001.out (fun _ hk => ⟨hk.2.1, hk.2.2⟩)⟩, ⟨by (with_reducible repeat (first | apply Kd.R_alloc | apply Kd.R_drewN | apply Kd.R_drew)); exact HO_399002.out⟩, ⟨by (with_reducible repeat (first | apply Kd.R_alloc | apply Kd.R_drewN | apply Kd.R_drew)); exact HO_409000.out⟩, ⟨by (with_reducible repeat (first | apply Kd.R_alloc | apply Kd.R_drewN | apply Kd.R_drew)); exact Kd.R_mono HO_409001.out (fun _ hk => ⟨hk.2.1, hk.2.2⟩)⟩, ⟨by (with_reducible repeat (first | apply Kd.R_alloc | apply Kd.R_drewN | apply Kd.R_drew)); exact HO_409002.out⟩, ⟨by (with_reducible repeat (first | refine blk_drewN ?_ _ | refine blk_drew ?_ | refine blk_alloc ?_ _)); exact BK388.out⟩, ⟨by (with_reducible repeat (first | refine blk_drewN ?_ _ | refine blk_drew ?_ | refine blk_alloc ?_ _)); exact BK398.out⟩, ⟨by (with_reducible repeat (first | refine blk_drewN ?_ _ | refine blk_drew ?_ | refine blk_alloc ?_ _)); exact BK408.out⟩, ⟨by repeat (first | (with_reducible first | exact HB.out | apply below_alloc | apply pw_below_drewN | apply below_drew1 | refine below_set ?_ GE388.out | refine below_set ?_ GE398.out | refine below_set ?_ GE408.out) | exact HB.out)⟩⟩
                       case round =>
                        clear H'
                        try clear c1
                        try clear p2
                        try clear c3
                        try clear c4
                        try clear p4
                        try clear q4
                        try clear hx4
                        try clear c5
                        try clear c6
                        try clear p6
                        try clear c7
                        try clear c7b0
                        try clear c7b1
                        try clear c8
                        try clear c8b0
                        try clear c8b1
                        try clear c9
                        try clear c10
                        try clear c12
                        try clear c13
                        try clear c14
                        try clear c18
                        try clear c33
                        try clear c40
                        try clear c41
                        try clear p41
                        try clear q41
                        try clear hx41
                        try clear p42
                        try clear q42
                        try clear hx42
                        try clear c49
                        try clear c49b0
                        try clear c50
                        try clear c51
                        try clear c53
                        try clear c53b0
                        try clear c54
                        try clear c55
                        try clear c56
                        try clear c58
                        try clear c58b0
                        try clear c59
                        try clear c59b0
                        try clear c60
                        try clear c60b0
                        try clear c61
                        try clear c62
                        try clear c64
                        try clear p64
                        try clear c66
                        try clear c67
                        try clear c68
                        try clear c70
                        try clear c70b0
                        try clear c71
                        try clear c71b0
                        try clear c72
                        try clear c73
                        try clear c74
                        try clear c76
                        try clear c79
                        try clear c79b0
                        try clear c79b1
                        try clear c79b2
                        try clear c80
                        try clear c81
                        try clear c83
                        try clear c86
                        try clear c86b0
                        try clear c87
                        try clear c87b0
                        try clear c88
                        try clear c88b0
                        try clear c89
                        try clear c89b0
                        try clear c90
                        try clear c91
                        try clear c93
                        try clear c94
                        try clear hcz27_0
                        try clear hcz27_1
                        try clear hcz27_2
                        try clear hcz34_0
                        try clear hcz34_1
                        try clear hcz34_2
                        try clear hcz42_0
                        try clear hcz42_1
                        try clear hcz42_2
                        try clear hcz47_0
                        try clear hcz47_1
                        try clear hcz47_2
                        try clear hcz52_0
                        try clear hcz52_1
                        try clear hcz52_2
                        try clear hcz57_0
                        try clear hcz57_1
                        try clear hcz57_2
                        try clear hcz63_0
                        try clear hcz63_1
                        try clear hcz63_2
                        try clear hcz65_0
                        try clear hcz65_1
                        try clear hcz65_2
                        try clear hcz69_0
                        try clear hcz69_1
                        try clear hcz69_2
                        try clear hcz75_0
                        try clear hcz75_1
                        try clear hcz75_2
                        try clear hcz77_0
                        try clear hcz77_1
                        try clear hcz77_2
                        try clear hcz82_0
                        try clear hcz82_1
                        try clear hcz82_2
                        try clear hcz84_0
                        try clear hcz84_1
                        try clear hcz84_2
                        try clear hcz92_0
                        try clear hcz92_1
                        try clear hcz92_2
                        try clear hcz95_0
                        try clear hcz95_1
                        try clear hcz95_2
                        try clear hfz27_0
                        try clear hfz27_1
                        try clear hfz27_2
                        try clear hfz34_0
                        try clear hfz34_1
                        try clear hfz34_2
                        try clear hfz42_0
                        try clear hfz42_1
                        try clear hfz42_2
                        try clear hfz47_0
                        try clear hfz47_1
                        try clear hfz47_2
                        try clear hfz52_0
                        try clear hfz52_1
                        try clear hfz52_2
                        try clear hfz57_0
                        try clear hfz57_1
                        try clear hfz57_2
                        try clear hfz63_0
                        try clear hfz63_1
                        try clear hfz63_2
                        try clear hfz65_0
                        try clear hfz65_1
                        try clear hfz65_2
                        try clear hfz69_0
                        try clear hfz69_1
                        try clear hfz69_2
                        try clear hfz75_0
                        try clear hfz75_1
                        try clear hfz75_2
                        try clear hfz77_0
                        try clear hfz77_1
                        try clear hfz77_2
                        try clear hfz82_0
                        try clear hfz82_1
                        try clear hfz82_2
                        try clear hfz84_0
                        try clear hfz84_1
                        try clear hfz84_2
                        try clear hfz92_0
                        try clear hfz92_1
                        try clear hfz92_2
                        try clear hfz95_0
                        try clear hfz95_1
                        try clear hfz95_2
                        try clear hx415_0
                        try clear hx415_1
                        try clear hx415_2
                        try clear hx416_0
                        try clear hx416_1
                        try clear hx416_2
                        try clear hx417_0
                        try clear hx417_1
                        try clear hx417_2
                        try clear hx421_0
                        try clear hx421_1
                        try clear hx421_2
                        try clear hx422_0
                        try clear hx422_1
                        try clear hx422_2
                        try clear p2
                        try clear p4
                        try clear p41
                        try clear p415
                        try clear p416
                        try clear p417
                        try clear p421
                        try clear p422
                        try clear p6
                        try clear p64
                        try clear q4
                        try clear q41
                        try clear q415
                        try clear q416
                        try clear q417
                        try clear q421
                        try clear q422
                        obtain ⟨x13_4, rfl, HA, HK4, HO_389000, HO_389001, HO_389002, HO_399000, HO_399001, HO_399002, HO_409000, HO_409001, HO_409002, BK388, BK398, BK408, HB⟩ := hrel
                        cases gk with
                        | zero => exact absurd HA.out (by simp [seneschallaw17_PastJoins.l3])
                        | succ k4 =>
                         have H := HA.out
                         clear HA
                         simp only [seneschallaw17_PastJoins.l3] at H
                         by_cases c96 : x13_4 < (t385.length : Int)
                         · rw [if_pos c96] at H
                           have c96b0 : decide (x13_4 < (t385.length : Int)) = true := decide_eq_true c96
                           clear c96
                           have H' := Aside0.mk H
                           clear H
                           have hnb97 := NB388_398.out
                           have hnc97 := NB398_388.out
                           have hnb98 := NB388_408.out
                           have hnc98 := NB408_388.out
                           have hcz99_0 : wr.cell? ⟨gb388, 0, none⟩ = some (.slice Ao26 t379.length co26) := (blk_cell BK388.out 0).trans rfl
                           have hcz99_1 : wr.cell? ⟨gb388, 1, none⟩ = some (.slice Ao28 t382.length co28) := (blk_cell BK388.out 1).trans rfl
                           have hcz99_2 : wr.cell? ⟨gb388, 2, none⟩ = some (.slice Ao29 t385.length co29) := (blk_cell BK388.out 2).trans rfl
                           have hfz99_0 := blk_frozen BK388.out 0
                           have hfz99_1 := blk_frozen BK388.out 1
                           have hfz99_2 := blk_frozen BK388.out 2
                           go_wp2
                           repeat (go_quiet (fail); try go_wp2)
                           go_loopg [14, 15] k4 (fun kq v14 v15 w' => ∃ (x14_5 : Int) (x15_5 : Int), v14 = .int .i64 x14_5 ∧ v15 = .int .i64 x15_5 ∧ Aside0 (seneschallaw17_PastJoins.l4 kq x13_4 x14_5 x15_5 t379 t382 t385 t389 t392 t395 t399 t402 t405 = some r) ∧ Aside0 (kq ≤ k4) ∧ Aside0 (Kd.R k43 43 w' w.heap.size (fun k_ => some k_ ≠ ((.slice Ao32 t389.length co32) : Value).ownBlock ∧ some k_ ≠ ((.slice Ao39 t399.length co39) : Value).ownBlock) (.slice Ao26 t379.length co26) t379) ∧ Aside0 (Kd.R k24 24 w' w.heap.size (fun k_ => some k_ ≠ ((.slice Ao35 t392.length co35) : Value).ownBlock ∧ some k_ ≠ ((.slice Ao43 t402.length co43) : Value).ownBlock) (.slice Ao28 t382.length co28) t382) ∧ Aside0 (Kd.R k45 45 w' w.heap.size (fun k_ => some k_ ≠ ((.slice Ao36 t395.length co36) : Value).ownBlock ∧ some k_ ≠ ((.slice Ao44 t405.length co44) : Value).ownBlock) (.slice Ao29 t385.length co29) t385) ∧ Aside0 (Kd.R k43 43 w' w.heap.size (fun k_ => some k_ ≠ ((.slice Ao26 t379.length co26) : Value).ownBlock ∧ some k_ ≠ ((.slice Ao39 t399.length co39) : Value).ownBlock) (.slice Ao32 t389.length co32) t389) ∧ Aside0 (Kd.R k24 24 w' w.heap.size (fun k_ => some k_ ≠ ((.slice Ao28 t382.length co28) : Value).ownBlock ∧ some k_ ≠ ((.slice Ao43 t402.length co43) : Value).ownBlock) (.slice Ao35 t392.length co35) t392) ∧ Aside0 (Kd.R k45 45 w' w.heap.size (fun k_ => some k_ ≠ ((.slice Ao29 t385.length co29) : Value).ownBlock ∧ some k_ ≠ ((.slice Ao44 t405.length co44) : Value).ownBlock) (.slice Ao36 t395.length co36) t395) ∧ Aside0 (Kd.R k43 43 w' w.heap.size (fun k_ => some k_ ≠ ((.slice Ao26 t379.length co26) : Value).ownBlock ∧ some k_ ≠ ((.slice Ao32 t389.length co32) : Value).ownBlock) (.slice Ao39 t399.length co39) t399) ∧ Aside0 (Kd.R k24 24 w' w.heap.size (fun k_ => some k_ ≠ ((.slice Ao28 t382.length co28) : Value).ownBlock ∧ some k_ ≠ ((.slice Ao35 t392.length co35) : Value).ownBlock) (.slice Ao43 t402.length co43) t402) ∧ Aside0 (Kd.R k45 45 w' w.heap.size (fun k_ => some k_ ≠ ((.slice Ao29 t385.length co29) : Value).ownBlock ∧ some k_ ≠ ((.slice Ao36 t395.length co36) : Value).ownBlock) (.slice Ao44 t405.length co44) t405) ∧ Aside0 (w'.heap[gb388]? = some (.cells #[(.slice Ao26 t379.length co26), (.slice Ao28 t382.length co28), (.slice Ao29 t385.length co29)] 37 (0, 0))) ∧ Aside0 (w'.heap[gb398]? = some (.cells #[(.slice Ao32 t389.length co32), (.slice Ao35 t392.length co35), (.slice Ao36 t395.length co36)] 37 (0, 0))) ∧ Aside0 (w'.heap[gb408]? = some (.cells #[(.slice Ao39 t399.length co39), (.slice Ao43 t402.length co43), (.slice Ao44 t405.length co44)] 37 (0, 0))) ∧ Aside0 (Below w.heap.size w w'))
                           case atStart => exact ⟨(0), (0), (by first | rfl | (simp; done) | (simp [*]; done)), (by first | rfl | (simp; done) | (simp [*]; done)), H', ⟨Nat.le_refl _⟩, ⟨by (with_reducible repeat (first | apply Kd.R_alloc | apply Kd.R_drewN | apply Kd.R_drew)); exact HO_389000.out⟩, ⟨by (with_reducible repeat (first | apply Kd.R_alloc | apply Kd.R_drewN | apply Kd.R_drew)); exact HO_389001.out⟩, ⟨by (with_reducible repeat (first | apply Kd.R_alloc | apply Kd.R_drewN | apply Kd.R_drew)); exact HO_389002.out⟩, ⟨by (with_reducible repeat (first | apply Kd.R_alloc | apply Kd.R_drewN | apply Kd.R_drew)); exact HO_399000.out⟩, ⟨by (with_reducible repeat (first | apply Kd.R_alloc | apply Kd.R_drewN | apply Kd.R_drew)); exact HO_399001.out⟩, ⟨by (with_reducible repeat (first | apply Kd.R_alloc | apply Kd.R_drewN | apply Kd.R_drew)); exact HO_399002.out⟩, ⟨by (with_reducible repeat (first | apply Kd.R_alloc | apply Kd.R_drewN | apply Kd.R_drew)); exact HO_409000.out⟩, ⟨by (with_reducible repeat (first | apply Kd.R_alloc | apply Kd.R_drewN | apply Kd.R_drew)); exact HO_409001.out⟩, ⟨by (with_reducible repeat (first | apply Kd.R_alloc | apply Kd.R_drewN | apply Kd.R_drew)); exact HO_409002.out⟩, ⟨by (with_reducible repeat (first | refine blk_drewN ?_ _ | refine blk_drew ?_ | refine blk_alloc ?_ _)); exact BK388.out⟩, ⟨by (with_reducible repeat (first | refine blk_drewN ?_ _ | refine blk_drew ?_ | refine blk_alloc ?_ _)); exact BK398.out⟩, ⟨by (with_reducible repeat (first | refine blk_drewN ?_ _ | refine blk_drew ?_ | refine blk_alloc ?_ _)); exact BK408.out⟩, ⟨by repeat (first | (with_reducible first | exact HB.out | apply below_alloc | apply pw_below_drewN | apply below_drew1 | refine below_set ?_ GE388.out | refine below_set ?_ GE398.out | refine below_set ?_ GE408.out) | exact HB.out)⟩⟩
                           case round =>
                            clear H'
                            try clear c1
                            try clear p2
                            try clear c3
                            try clear c4
                            try clear p4
                            try clear q4
                            try clear hx4
                            try clear c5
                            try clear c6
                            try clear p6
                            try clear c7
                            try clear c7b0
                            try clear c7b1
                            try clear c8
                            try clear c8b0
                            try clear c8b1
                            try clear c9
                            try clear c10
                            try clear c12
                            try clear c13
                            try clear c14
                            try clear c18
                            try clear c33
                            try clear c40
                            try clear c41
                            try clear p41
                            try clear q41
                            try clear hx41
                            try clear p42
                            try clear q42
                            try clear hx42
                            try clear c49
                            try clear c49b0
                            try clear c50
                            try clear c51
                            try clear c53
                            try clear c53b0
                            try clear c54
                            try clear c55
                            try clear c56
                            try clear c58
                            try clear c58b0
                            try clear c59
                            try clear c59b0
                            try clear c60
                            try clear c60b0
                            try clear c61
                            try clear c62
                            try clear c64
                            try clear p64
                            try clear c66
                            try clear c67
                            try clear c68
                            try clear c70
                            try clear c70b0
                            try clear c71
                            try clear c71b0
                            try clear c72
                            try clear c73
                            try clear c74
                            try clear c76
                            try clear c79
                            try clear c79b0
                            try clear c79b1
                            try clear c79b2
                            try clear c80
                            try clear c81
                            try clear c83
                            try clear c86
                            try clear c86b0
                            try clear c87
                            try clear c87b0
                            try clear c88
                            try clear c88b0
                            try clear c89
                            try clear c89b0
                            try clear c90
                            try clear c91
                            try clear c93
                            try clear c94
                            try clear c96
                            try clear c96b0
                            try clear c97
                            try clear c98
                            try clear hcz27_0
                            try clear hcz27_1
                            try clear hcz27_2
                            try clear hcz34_0
                            try clear hcz34_1
                            try clear hcz34_2
                            try clear hcz42_0
                            try clear hcz42_1
                            try clear hcz42_2
                            try clear hcz47_0
                            try clear hcz47_1
                            try clear hcz47_2
                            try clear hcz52_0
                            try clear hcz52_1
                            try clear hcz52_2
                            try clear hcz57_0
                            try clear hcz57_1
                            try clear hcz57_2
                            try clear hcz63_0
                            try clear hcz63_1
                            try clear hcz63_2
                            try clear hcz65_0
                            try clear hcz65_1
                            try clear hcz65_2
                            try clear hcz69_0
                            try clear hcz69_1
                            try clear hcz69_2
                            try clear hcz75_0
                            try clear hcz75_1
                            try clear hcz75_2
                            try clear hcz77_0
                            try clear hcz77_1
                            try clear hcz77_2
                            try clear hcz82_0
                            try clear hcz82_1
                            try clear hcz82_2
                            try clear hcz84_0
                            try clear hcz84_1
                            try clear hcz84_2
                            try clear hcz92_0
                            try clear hcz92_1
                            try clear hcz92_2
                            try clear hcz95_0
                            try clear hcz95_1
                            try clear hcz95_2
                            try clear hcz99_0
                            try clear hcz99_1
                            try clear hcz99_2
                            try clear hfz27_0
                            try clear hfz27_1
                            try clear hfz27_2
                            try clear hfz34_0
                            try clear hfz34_1
                            try clear hfz34_2
                            try clear hfz42_0
                            try clear hfz42_1
                            try clear hfz42_2
                            try clear hfz47_0
                            try clear hfz47_1
                            try clear hfz47_2
                            try clear hfz52_0
                            try clear hfz52_1
                            try clear hfz52_2
                            try clear hfz57_0
                            try clear hfz57_1
                            try clear hfz57_2
                            try clear hfz63_0
                            try clear hfz63_1
                            try clear hfz63_2
                            try clear hfz65_0
                            try clear hfz65_1
                            try clear hfz65_2
                            try clear hfz69_0
                            try clear hfz69_1
                            try clear hfz69_2
                            try clear hfz75_0
                            try clear hfz75_1
                            try clear hfz75_2
                            try clear hfz77_0
                            try clear hfz77_1
                            try clear hfz77_2
                            try clear hfz82_0
                            try clear hfz82_1
                            try clear hfz82_2
                            try clear hfz84_0
                            try clear hfz84_1
                            try clear hfz84_2
                            try clear hfz92_0
                            try clear hfz92_1
                            try clear hfz92_2
                            try clear hfz95_0
                            try clear hfz95_1
                            try clear hfz95_2
                            try clear hfz99_0
                            try clear hfz99_1
                            try clear hfz99_2
                            try clear hx415_0
                            try clear hx415_1
                            try clear hx415_2
                            try clear hx416_0
                            try clear hx416_1
                            try clear hx416_2
                            try clear hx417_0
                            try clear hx417_1
                            try clear hx417_2
                            try clear hx421_0
                            try clear hx421_1
                            try clear hx421_2
                            try clear hx422_0
                            try clear hx422_1
                            try clear hx422_2
                            try clear p2
                            try clear p4
                            try clear p41
                            try clear p415
                            try clear p416
                            try clear p417
                            try clear p42
                            try clear p421
                            try clear p422
                            try clear p6
                            try clear p64
                            try clear q4
                            try clear q41
                            try clear q415
                            try clear q416
                            try clear q417
                            try clear q42
                            try clear q421
                            try clear q422
                            obtain ⟨x14_5, x15_5, rfl, rfl, HA, HK5, HO_389000, HO_389001, HO_389002, HO_399000, HO_399001, HO_399002, HO_409000, HO_409001, HO_409002, BK388, BK398, BK408, HB⟩ := hrel
                            cases gk with
                            | zero => exact absurd HA.out (by simp [seneschallaw17_PastJoins.l4])
                            | succ k5 =>
                             have H := HA.out
                             clear HA
                             simp only [seneschallaw17_PastJoins.l4] at H
                             by_cases c100 : x15_5 < (t405.length : Int)
                             · rw [if_pos c100] at H
                               have c100b0 : decide (x15_5 < (t405.length : Int)) = true := decide_eq_true c100
                               clear c100
                               by_cases c101 : 0 ≤ x15_5
                               · rw [if_pos c101] at H
                                 have c101b0 : decide (0 ≤ x15_5) = true := decide_eq_true c101
                                 clear c101
                                 by_cases c102 : 0 ≤ x13_4
                                 · rw [if_pos c102] at H
                                   have c102b0 : decide (0 ≤ x13_4) = true := decide_eq_true c102
                                   clear c102
                                   by_cases c103 : x13_4 < (t385.length : Int)
                                   · rw [if_pos c103] at H
                                     have c103b0 : decide (x13_4 < (t385.length : Int)) = true := decide_eq_true c103
                                     clear c103
                                     by_cases c104 : ((rd_T45 t405 x15_5).f0) = ((rd_T45 t385 x13_4).f0)
                                     · rw [if_pos c104] at H
                                       have c104b0 : (((rd_T45 t405 x15_5).f0) == ((rd_T45 t385 x13_4).f0)) = true := beq_iff_eq.mpr c104
                                       have c104b1 : (((rd_T45 t405 x15_5).f0) != ((rd_T45 t385 x13_4).f0)) = false := bne_eq_false_iff_eq.mpr c104
                                       clear c104
                                       have H' := Aside0.mk H
                                       clear H
                                       have hnb105 := NB408_388.out
                                       have hnc105 := NB388_408.out
                                       have hnb106 := NB408_398.out
                                       have hnc106 := NB398_408.out
                                       have hcz107_0 : wr.cell? ⟨gb408, 0, none⟩ = some (.slice Ao39 t399.length co39) := (blk_cell BK408.out 0).trans rfl
                                       have hcz107_1 : wr.cell? ⟨gb408, 1, none⟩ = some (.slice Ao43 t402.length co43) := (blk_cell BK408.out 1).trans rfl
                                       have hcz107_2 : wr.cell? ⟨gb408, 2, none⟩ = some (.slice Ao44 t405.length co44) := (blk_cell BK408.out 2).trans rfl
                                       have hfz107_0 := blk_frozen BK408.out 0
                                       have hfz107_1 := blk_frozen BK408.out 1
                                       have hfz107_2 := blk_frozen BK408.out 2
                                       have p423 : 0 ≤ (x15_5 : Int) := of_decide_eq_true (by first | (with_reducible assumption) | assumption)
                                       have q423 : x15_5 < (t405.length : Int) := of_decide_eq_true (by first | (with_reducible assumption) | assumption)
                                       obtain ⟨ad423, e423, hx423_0, hx423_1⟩ := at_T45 (Kd.R_reads' HO_409002.out).2.2 x15_5 p423 q423
                                       cases e423
                                       replace p423 := eq_true p423
                                       replace q423 := eq_true q423
                                       have hnb108 := NB388_398.out
                                       have hnc108 := NB398_388.out
                                       have hcz109_0 : wr.cell? ⟨gb388, 0, none⟩ = some (.slice Ao26 t379.length co26) := (blk_cell BK388.out 0).trans rfl
                                       have hcz109_1 : wr.cell? ⟨gb388, 1, none⟩ = some (.slice Ao28 t382.length co28) := (blk_cell BK388.out 1).trans rfl
                                       have hcz109_2 : wr.cell? ⟨gb388, 2, none⟩ = some (.slice Ao29 t385.length co29) := (blk_cell BK388.out 2).trans rfl
                                       have hfz109_0 := blk_frozen BK388.out 0
                                       have hfz109_1 := blk_frozen BK388.out 1
                                       have hfz109_2 := blk_frozen BK388.out 2
                                       have p424 : 0 ≤ (x13_4 : Int) := of_decide_eq_true (by first | (with_reducible assumption) | assumption)
                                       have q424 : x13_4 < (t385.length : Int) := of_decide_eq_true (by first | (with_reducible assumption) | assumption)
                                       obtain ⟨ad424, e424, hx424_0, hx424_1⟩ := at_T45 (Kd.R_reads' HO_389002.out).2.2 x13_4 p424 q424
                                       cases e424
                                       replace p424 := eq_true p424
                                       replace q424 := eq_true q424
                                       have p425 : 0 ≤ (x15_5 : Int) := of_decide_eq_true (by first | (with_reducible assumption) | assumption)
                                       have q425 : x15_5 < (t405.length : Int) := of_decide_eq_true (by first | (with_reducible assumption) | assumption)
                                       obtain ⟨ad425, e425, hx425_0, hx425_1⟩ := at_T45 (Kd.R_reads' HO_409002.out).2.2 x15_5 p425 q425
                                       obtain rfl : ad423 = ad425 := (by injection e425)
                                       replace p425 := eq_true p425
                                       replace q425 := eq_true q425
                                       go_wp2
                                       repeat (go_quiet (fail); try go_wp2)
                                       go_roundg k5
                                       case measure => have := HJ4.out; have := HK2.out; have := HK3.out; have := HK4.out; have := HK5.out; omega
                                       case rel => exact ⟨((rd_T45 t405 x15_5).f1), (wrap64 (x15_5 + 1)), (by first | rfl | (simp; done) | (simp [*]; done)), (by first | rfl | (simp; done) | (simp [*]; done)), H', ⟨by have := HJ4.out; have := HK2.out; have := HK3.out; have := HK4.out; have := HK5.out; omega⟩, ⟨by (with_reducible repeat (first | apply Kd.R_alloc | apply Kd.R_drewN | apply Kd.R_drew)); exact HO_389000.out⟩, ⟨by (with_reducible repeat (first | apply Kd.R_alloc | apply Kd.R_drewN | apply Kd.R_drew)); exact HO_389001.out⟩, ⟨by (with_reducible repeat (first | apply Kd.R_alloc | apply Kd.R_drewN | apply Kd.R_drew)); exact HO_389002.out⟩, ⟨by (with_reducible repeat (first | apply Kd.R_alloc | apply Kd.R_drewN | apply Kd.R_drew)); exact HO_399000.out⟩, ⟨by (with_reducible repeat (first | apply Kd.R_alloc | apply Kd.R_drewN | apply Kd.R_drew)); exact HO_399001.out⟩, ⟨by (with_reducible repeat (first | apply Kd.R_alloc | apply Kd.R_drewN | apply Kd.R_drew)); exact HO_399002.out⟩, ⟨by (with_reducible repeat (first | apply Kd.R_alloc | apply Kd.R_drewN | apply Kd.R_drew)); exact HO_409000.out⟩, ⟨by (with_reducible repeat (first | apply Kd.R_alloc | apply Kd.R_drewN | apply Kd.R_drew)); exact HO_409001.out⟩, ⟨by (with_reducible repeat (first | apply Kd.R_alloc | apply Kd.R_drewN | apply Kd.R_drew)); exact HO_409002.out⟩, ⟨by (with_reducible repeat (first | refine blk_drewN ?_ _ | refine blk_drew ?_ | refine blk_alloc ?_ _)); exact BK388.out⟩, ⟨by (with_reducible repeat (first | refine blk_drewN ?_ _ | refine blk_drew ?_ | refine blk_alloc ?_ _)); exact BK398.out⟩, ⟨by (with_reducible repeat (first | refine blk_drewN ?_ _ | refine blk_drew ?_ | refine blk_alloc ?_ _)); exact BK408.out⟩, ⟨by repeat (first | (with_reducible first | exact HB.out | apply below_alloc | apply pw_below_drewN | apply below_drew1 | refine below_set ?_ GE388.out | refine below_set ?_ GE398.out | refine below_set ?_ GE408.out) | exact HB.out)⟩⟩
                                     · rw [if_neg c104] at H
                                       have c104b0 : (((rd_T45 t405 x15_5).f0) == ((rd_T45 t385 x13_4).f0)) = false := beq_eq_false_iff_ne.mpr c104
                                       have c104b1 : (((rd_T45 t405 x15_5).f0) != ((rd_T45 t385 x13_4).f0)) = true := bne_iff_ne.mpr c104
                                       have H' := Aside0.mk H
                                       clear H
                                       have hnb110 := NB408_388.out
                                       have hnc110 := NB388_408.out
                                       have hnb111 := NB408_398.out
                                       have hnc111 := NB398_408.out
                                       have hcz112_0 : wr.cell? ⟨gb408, 0, none⟩ = some (.slice Ao39 t399.length co39) := (blk_cell BK408.out 0).trans rfl
                                       have hcz112_1 : wr.cell? ⟨gb408, 1, none⟩ = some (.slice Ao43 t402.length co43) := (blk_cell BK408.out 1).trans rfl
                                       have hcz112_2 : wr.cell? ⟨gb408, 2, none⟩ = some (.slice Ao44 t405.length co44) := (blk_cell BK408.out 2).trans rfl
                                       have hfz112_0 := blk_frozen BK408.out 0
                                       have hfz112_1 := blk_frozen BK408.out 1
                                       have hfz112_2 := blk_frozen BK408.out 2
                                       have p423 : 0 ≤ (x15_5 : Int) := of_decide_eq_true (by first | (with_reducible assumption) | assumption)
                                       have q423 : x15_5 < (t405.length : Int) := of_decide_eq_true (by first | (with_reducible assumption) | assumption)
                                       obtain ⟨ad423, e423, hx423_0, hx423_1⟩ := at_T45 (Kd.R_reads' HO_409002.out).2.2 x15_5 p423 q423
                                       cases e423
                                       replace p423 := eq_true p423
                                       replace q423 := eq_true q423
                                       have hnb113 := NB388_398.out
                                       have hnc113 := NB398_388.out
                                       have hcz114_0 : wr.cell? ⟨gb388, 0, none⟩ = some (.slice Ao26 t379.length co26) := (blk_cell BK388.out 0).trans rfl
                                       have hcz114_1 : wr.cell? ⟨gb388, 1, none⟩ = some (.slice Ao28 t382.length co28) := (blk_cell BK388.out 1).trans rfl
                                       have hcz114_2 : wr.cell? ⟨gb388, 2, none⟩ = some (.slice Ao29 t385.length co29) := (blk_cell BK388.out 2).trans rfl
                                       have hfz114_0 := blk_frozen BK388.out 0
                                       have hfz114_1 := blk_frozen BK388.out 1
                                       have hfz114_2 := blk_frozen BK388.out 2
                                       have p424 : 0 ≤ (x13_4 : Int) := of_decide_eq_true (by first | (with_reducible assumption) | assumption)
                                       have q424 : x13_4 < (t385.length : Int) := of_decide_eq_true (by first | (with_reducible assumption) | assumption)
                                       obtain ⟨ad424, e424, hx424_0, hx424_1⟩ := at_T45 (Kd.R_reads' HO_389002.out).2.2 x13_4 p424 q424
                                       cases e424
                                       replace p424 := eq_true p424
                                       replace q424 := eq_true q424
                                       go_wp2
                                       repeat (go_quiet (fail); try go_wp2)
                                       go_roundg k5
                                       case measure => have := HJ4.out; have := HK2.out; have := HK3.out; have := HK4.out; have := HK5.out; omega
                                       case rel => exact ⟨(x14_5), (wrap64 (x15_5 + 1)), (by first | rfl | (simp; done) | (simp [*]; done)), (by first | rfl | (simp; done) | (simp [*]; done)), H', ⟨by have := HJ4.out; have := HK2.out; have := HK3.out; have := HK4.out; have := HK5.out; omega⟩, ⟨by (with_reducible repeat (first | apply Kd.R_alloc | apply Kd.R_drewN | apply Kd.R_drew)); exact HO_389000.out⟩, ⟨by (with_reducible repeat (first | apply Kd.R_alloc | apply Kd.R_drewN | apply Kd.R_drew)); exact HO_389001.out⟩, ⟨by (with_reducible repeat (first | apply Kd.R_alloc | apply Kd.R_drewN | apply Kd.R_drew)); exact HO_389002.out⟩, ⟨by (with_reducible repeat (first | apply Kd.R_alloc | apply Kd.R_drewN | apply Kd.R_drew)); exact HO_399000.out⟩, ⟨by (with_reducible repeat (first | apply Kd.R_alloc | apply Kd.R_drewN | apply Kd.R_drew)); exact HO_399001.out⟩, ⟨by (with_reducible repeat (first | apply Kd.R_alloc | apply Kd.R_drewN | apply Kd.R_drew)); exact HO_399002.out⟩, ⟨by (with_reducible repeat (first | apply Kd.R_alloc | apply Kd.R_drewN | apply Kd.R_drew)); exact HO_409000.out⟩, ⟨by (with_reducible repeat (first | apply Kd.R_alloc | apply Kd.R_drewN | apply Kd.R_drew)); exact HO_409001.out⟩, ⟨by (with_reducible repeat (first | apply Kd.R_alloc | apply Kd.R_drewN | apply Kd.R_drew)); exact HO_409002.out⟩, ⟨by (with_reducible repeat (first | refine blk_drewN ?_ _ | refine blk_drew ?_ | refine blk_alloc ?_ _)); exact BK388.out⟩, ⟨by (with_reducible repeat (first | refine blk_drewN ?_ _ | refine blk_drew ?_ | refine blk_alloc ?_ _)); exact BK398.out⟩, ⟨by (with_reducible repeat (first | refine blk_drewN ?_ _ | refine blk_drew ?_ | refine blk_alloc ?_ _)); exact BK408.out⟩, ⟨by repeat (first | (with_reducible first | exact HB.out | apply below_alloc | apply pw_below_drewN | apply below_drew1 | refine below_set ?_ GE388.out | refine below_set ?_ GE398.out | refine below_set ?_ GE408.out) | exact HB.out)⟩⟩
                                   · rw [if_neg c103] at H
                                     exact absurd H (by simp)
                                 · rw [if_neg c102] at H
                                   exact absurd H (by simp)
                               · rw [if_neg c101] at H
                                 exact absurd H (by simp)
                             · rw [if_neg c100] at H
                               have c100b0 : decide (x15_5 < (t405.length : Int)) = false := decide_eq_false c100
                               clear c100
                               have H' := Aside0.mk H
                               clear H
                               have hnb115 := NB408_388.out
                               have hnc115 := NB388_408.out
                               have hnb116 := NB408_398.out
                               have hnc116 := NB398_408.out
                               have hcz117_0 : wr.cell? ⟨gb408, 0, none⟩ = some (.slice Ao39 t399.length co39) := (blk_cell BK408.out 0).trans rfl
                               have hcz117_1 : wr.cell? ⟨gb408, 1, none⟩ = some (.slice Ao43 t402.length co43) := (blk_cell BK408.out 1).trans rfl
                               have hcz117_2 : wr.cell? ⟨gb408, 2, none⟩ = some (.slice Ao44 t405.length co44) := (blk_cell BK408.out 2).trans rfl
                               have hfz117_0 := blk_frozen BK408.out 0
                               have hfz117_1 := blk_frozen BK408.out 1
                               have hfz117_2 := blk_frozen BK408.out 2
                               go_wp2
                               repeat (go_quiet (fail); try go_wp2)
                               go_loopg [14, 16] k5 (fun kq v14 v16 w' => ∃ (x14_6 : Int) (x16_6 : Int), v14 = .int .i64 x14_6 ∧ v16 = .int .i64 x16_6 ∧ Aside0 (seneschallaw17_PastJoins.l5 kq x13_4 x14_6 x16_6 t379 t382 t385 t389 t392 t395 t399 t402 t405 = some r) ∧ Aside0 (kq ≤ k5) ∧ Aside0 (Kd.R k43 43 w' w.heap.size (fun k_ => some k_ ≠ ((.slice Ao32 t389.length co32) : Value).ownBlock ∧ some k_ ≠ ((.slice Ao39 t399.length co39) : Value).ownBlock) (.slice Ao26 t379.length co26) t379) ∧ Aside0 (Kd.R k24 24 w' w.heap.size (fun k_ => some k_ ≠ ((.slice Ao35 t392.length co35) : Value).ownBlock ∧ some k_ ≠ ((.slice Ao43 t402.length co43) : Value).ownBlock) (.slice Ao28 t382.length co28) t382) ∧ Aside0 (Kd.R k45 45 w' w.heap.size (fun k_ => some k_ ≠ ((.slice Ao36 t395.length co36) : Value).ownBlock ∧ some k_ ≠ ((.slice Ao44 t405.length co44) : Value).ownBlock) (.slice Ao29 t385.length co29) t385) ∧ Aside0 (Kd.R k43 43 w' w.heap.size (fun k_ => some k_ ≠ ((.slice Ao26 t379.length co26) : Value).ownBlock ∧ some k_ ≠ ((.slice Ao39 t399.length co39) : Value).ownBlock) (.slice Ao32 t389.length co32) t389) ∧ Aside0 (Kd.R k24 24 w' w.heap.size (fun k_ => some k_ ≠ ((.slice Ao28 t382.length co28) : Value).ownBlock ∧ some k_ ≠ ((.slice Ao43 t402.length co43) : Value).ownBlock) (.slice Ao35 t392.length co35) t392) ∧ Aside0 (Kd.R k45 45 w' w.heap.size (fun k_ => some k_ ≠ ((.slice Ao29 t385.length co29) : Value).ownBlock ∧ some k_ ≠ ((.slice Ao44 t405.length co44) : Value).ownBlock) (.slice Ao36 t395.length co36) t395) ∧ Aside0 (Kd.R k43 43 w' w.heap.size (fun k_ => some k_ ≠ ((.slice Ao26 t379.length co26) : Value).ownBlock ∧ some k_ ≠ ((.slice Ao32 t389.length co32) : Value).ownBlock) (.slice Ao39 t399.length co39) t399) ∧ Aside0 (Kd.R k24 24 w' w.heap.size (fun k_ => some k_ ≠ ((.slice Ao28 t382.length co28) : Value).ownBlock ∧ some k_ ≠ ((.slice Ao35 t392.length co35) : Value).ownBlock) (.slice Ao43 t402.length co43) t402) ∧ Aside0 (Kd.R k45 45 w' w.heap.size (fun k_ => some k_ ≠ ((.slice Ao29 t385.length co29) : Value).ownBlock ∧ some k_ ≠ ((.slice Ao36 t395.length co36) : Value).ownBlock) (.slice Ao44 t405.length co44) t405) ∧ Aside0 (w'.heap[gb388]? = some (.cells #[(.slice Ao26 t379.length co26), (.slice Ao28 t382.length co28), (.slice Ao29 t385.length co29)] 37 (0, 0))) ∧ Aside0 (w'.heap[gb398]? = some (.cells #[(.slice Ao32 t389.length co32), (.slice Ao35 t392.length co35), (.slice Ao36 t395.length co36)] 37 (0, 0))) ∧ Aside0 (w'.heap[gb408]? = some (.cells #[(.slice Ao39 t399.length co39), (.slice Ao43 t402.length co43), (.slice Ao44 t405.length co44)] 37 (0, 0))) ∧ Aside0 (Below w.heap.size w w'))
                               case atStart => exact ⟨(x14_5), (0), (by first | rfl | (simp; done) | (simp [*]; done)), (by first | rfl | (simp; done) | (simp [*]; done)), H', ⟨Nat.le_refl _⟩, ⟨by (with_reducible repeat (first | apply Kd.R_alloc | apply Kd.R_drewN | apply Kd.R_drew)); exact HO_389000.out⟩, ⟨by (with_reducible repeat (first | apply Kd.R_alloc | apply Kd.R_drewN | apply Kd.R_drew)); exact HO_389001.out⟩, ⟨by (with_reducible repeat (first | apply Kd.R_alloc | apply Kd.R_drewN | apply Kd.R_drew)); exact HO_389002.out⟩, ⟨by (with_reducible repeat (first | apply Kd.R_alloc | apply Kd.R_drewN | apply Kd.R_drew)); exact HO_399000.out⟩, ⟨by (with_reducible repeat (first | apply Kd.R_alloc | apply Kd.R_drewN | apply Kd.R_drew)); exact HO_399001.out⟩, ⟨by (with_reducible repeat (first | apply Kd.R_alloc | apply Kd.R_drewN | apply Kd.R_drew)); exact HO_399002.out⟩, ⟨by (with_reducible repeat (first | apply Kd.R_alloc | apply Kd.R_drewN | apply Kd.R_drew)); exact HO_409000.out⟩, ⟨by (with_reducible repeat (first | apply Kd.R_alloc | apply Kd.R_drewN | apply Kd.R_drew)); exact HO_409001.out⟩, ⟨by (with_reducible repeat (first | apply Kd.R_alloc | apply Kd.R_drewN | apply Kd.R_drew)); exact HO_409002.out⟩, ⟨by (with_reducible repeat (first | refine blk_drewN ?_ _ | refine blk_drew ?_ | refine blk_alloc ?_ _)); exact BK388.out⟩, ⟨by (with_reducible repeat (first | refine blk_drewN ?_ _ | refine blk_drew ?_ | refine blk_alloc ?_ _)); exact BK398.out⟩, ⟨by (with_reducible repeat (first | refine blk_drewN ?_ _ | refine blk_drew ?_ | refine blk_alloc ?_ _)); exact BK408.out⟩, ⟨by repeat (first | (with_reducible first | exact HB.out | apply below_alloc | apply pw_below_drewN | apply below_drew1 | refine below_set ?_ GE388.out | refine below_set ?_ GE398.out | refine below_set ?_ GE408.out) | exact HB.out)⟩⟩
                               case round =>
                                clear H'
                                try clear c1
                                try clear p2
                                try clear c3
                                try clear c4
                                try clear p4
                                try clear q4
                                try clear hx4
                                try clear c5
                                try clear c6
                                try clear p6
                                try clear c7
                                try clear c7b0
                                try clear c7b1
                                try clear c8
                                try clear c8b0
                                try clear c8b1
                                try clear c9
                                try clear c10
                                try clear c11
                                try clear c12
                                try clear c13
                                try clear c14
                                try clear c18
                                try clear c33
                                try clear c40
                                try clear c41
                                try clear p41
                                try clear q41
                                try clear hx41
                                try clear p42
                                try clear q42
                                try clear hx42
                                try clear c49
                                try clear c49b0
                                try clear c50
                                try clear c51
                                try clear c53
                                try clear c53b0
                                try clear c54
                                try clear c55
                                try clear c56
                                try clear c58
                                try clear c58b0
                                try clear c59
                                try clear c59b0
                                try clear c60
                                try clear c60b0
                                try clear c61
                                try clear c62
                                try clear c64
                                try clear p64
                                try clear c66
                                try clear c67
                                try clear c68
                                try clear c70
                                try clear c70b0
                                try clear c71
                                try clear c71b0
                                try clear c72
                                try clear c73
                                try clear c74
                                try clear c76
                                try clear c79
                                try clear c79b0
                                try clear c79b1
                                try clear c79b2
                                try clear c80
                                try clear c81
                                try clear c83
                                try clear c86
                                try clear c86b0
                                try clear c87
                                try clear c87b0
                                try clear c88
                                try clear c88b0
                                try clear c89
                                try clear c89b0
                                try clear c90
                                try clear c91
                                try clear c93
                                try clear c94
                                try clear c96
                                try clear c96b0
                                try clear c97
                                try clear c98
                                try clear c100
                                try clear c100b0
                                try clear c101
                                try clear c101b0
                                try clear c102
                                try clear c102b0
                                try clear c103
                                try clear c103b0
                                try clear c104
                                try clear c104b0
                                try clear c104b1
                                try clear c105
                                try clear c106
                                try clear c108
                                try clear c110
                                try clear c111
                                try clear c113
                                try clear c115
                                try clear c116
                                try clear hcz107_0
                                try clear hcz107_1
                                try clear hcz107_2
                                try clear hcz109_0
                                try clear hcz109_1
                                try clear hcz109_2
                                try clear hcz112_0
                                try clear hcz112_1
                                try clear hcz112_2
                                try clear hcz114_0
                                try clear hcz114_1
                                try clear hcz114_2
                                try clear hcz117_0
                                try clear hcz117_1
                                try clear hcz117_2
                                try clear hcz27_0
                                try clear hcz27_1
                                try clear hcz27_2
                                try clear hcz34_0
                                try clear hcz34_1
                                try clear hcz34_2
                                try clear hcz42_0
                                try clear hcz42_1
                                try clear hcz42_2
                                try clear hcz47_0
                                try clear hcz47_1
                                try clear hcz47_2
                                try clear hcz52_0
                                try clear hcz52_1
                                try clear hcz52_2
                                try clear hcz57_0
                                try clear hcz57_1
                                try clear hcz57_2
                                try clear hcz63_0
                                try clear hcz63_1
                                try clear hcz63_2
                                try clear hcz65_0
                                try clear hcz65_1
                                try clear hcz65_2
                                try clear hcz69_0
                                try clear hcz69_1
                                try clear hcz69_2
                                try clear hcz75_0
                                try clear hcz75_1
                                try clear hcz75_2
                                try clear hcz77_0
                                try clear hcz77_1
                                try clear hcz77_2
                                try clear hcz82_0
                                try clear hcz82_1
                                try clear hcz82_2
                                try clear hcz84_0
                                try clear hcz84_1
                                try clear hcz84_2
                                try clear hcz92_0
                                try clear hcz92_1
                                try clear hcz92_2
                                try clear hcz95_0
                                try clear hcz95_1
                                try clear hcz95_2
                                try clear hcz99_0
                                try clear hcz99_1
                                try clear hcz99_2
                                try clear hfz107_0
                                try clear hfz107_1
                                try clear hfz107_2
                                try clear hfz109_0
                                try clear hfz109_1
                                try clear hfz109_2
                                try clear hfz112_0
                                try clear hfz112_1
                                try clear hfz112_2
                                try clear hfz114_0
                                try clear hfz114_1
                                try clear hfz114_2
                                try clear hfz117_0
                                try clear hfz117_1
                                try clear hfz117_2
                                try clear hfz27_0
                                try clear hfz27_1
                                try clear hfz27_2
                                try clear hfz34_0
                                try clear hfz34_1
                                try clear hfz34_2
                                try clear hfz42_0
                                try clear hfz42_1
                                try clear hfz42_2
                                try clear hfz47_0
                                try clear hfz47_1
                                try clear hfz47_2
                                try clear hfz52_0
                                try clear hfz52_1
                                try clear hfz52_2
                                try clear hfz57_0
                                try clear hfz57_1
                                try clear hfz57_2
                                try clear hfz63_0
                                try clear hfz63_1
                                try clear hfz63_2
                                try clear hfz65_0
                                try clear hfz65_1
                                try clear hfz65_2
                                try clear hfz69_0
                                try clear hfz69_1
                                try clear hfz69_2
                                try clear hfz75_0
                                try clear hfz75_1
                                try clear hfz75_2
                                try clear hfz77_0
                                try clear hfz77_1
                                try clear hfz77_2
                                try clear hfz82_0
                                try clear hfz82_1
                                try clear hfz82_2
                                try clear hfz84_0
                                try clear hfz84_1
                                try clear hfz84_2
                                try clear hfz92_0
                                try clear hfz92_1
                                try clear hfz92_2
                                try clear hfz95_0
                                try clear hfz95_1
                                try clear hfz95_2
                                try clear hfz99_0
                                try clear hfz99_1
                                try clear hfz99_2
                                try clear hx415_0
                                try clear hx415_1
                                try clear hx415_2
                                try clear hx416_0
                                try clear hx416_1
                                try clear hx416_2
                                try clear hx417_0
                                try clear hx417_1
                                try clear hx417_2
                                try clear hx421_0
                                try clear hx421_1
                                try clear hx421_2
                                try clear hx422_0
                                try clear hx422_1
                                try clear hx422_2
                                try clear hx423_0
                                try clear hx423_1
                                try clear hx424_0
                                try clear hx424_1
                                try clear hx425_0
                                try clear hx425_1
                                try clear p2
                                try clear p4
                                try clear p41
                                try clear p415
                                try clear p416
                                try clear p417
                                try clear p42
                                try clear p421
                                try clear p422
                                try clear p423
                                try clear p424
                                try clear p425
                                try clear p6
                                try clear p64
                                try clear q4
                                try clear q41
                                try clear q415
                                try clear q416
                                try clear q417
                                try clear q42
                                try clear q421
                                try clear q422
                                try clear q423
                                try clear q424
                                try clear q425
                                obtain ⟨x14_6, x16_6, rfl, rfl, HA, HK6, HO_389000, HO_389001, HO_389002, HO_399000, HO_399001, HO_399002, HO_409000, HO_409001, HO_409002, BK388, BK398, BK408, HB⟩ := hrel
                                cases gk with
                                | zero => exact absurd HA.out (by simp [seneschallaw17_PastJoins.l5])
                                | succ k6 =>
                                 have H := HA.out
                                 clear HA
                                 simp only [seneschallaw17_PastJoins.l5] at H
                                 by_cases c118 : x16_6 < (t395.length : Int)
                                 · rw [if_pos c118] at H
                                   have c118b0 : decide (x16_6 < (t395.length : Int)) = true := decide_eq_true c118
                                   clear c118
                                   by_cases c119 : 0 ≤ x16_6
                                   · rw [if_pos c119] at H
                                     have c119b0 : decide (0 ≤ x16_6) = true := decide_eq_true c119
                                     clear c119
                                     by_cases c120 : 0 ≤ x13_4
                                     · rw [if_pos c120] at H
                                       have c120b0 : decide (0 ≤ x13_4) = true := decide_eq_true c120
                                       clear c120
                                       by_cases c121 : x13_4 < (t385.length : Int)
                                       · rw [if_pos c121] at H
                                         have c121b0 : decide (x13_4 < (t385.length : Int)) = true := decide_eq_true c121
                                         clear c121
                                         by_cases c122 : ((rd_T45 t395 x16_6).f0) = ((rd_T45 t385 x13_4).f0)
                                         · rw [if_pos c122] at H
                                           have c122b0 : (((rd_T45 t395 x16_6).f0) == ((rd_T45 t385 x13_4).f0)) = true := beq_iff_eq.mpr c122
                                           have c122b1 : (((rd_T45 t395 x16_6).f0) != ((rd_T45 t385 x13_4).f0)) = false := bne_eq_false_iff_eq.mpr c122
                                           clear c122
                                           have H' := Aside0.mk H
                                           clear H
                                           have hnb123 := NB398_388.out
                                           have hnc123 := NB388_398.out
                                           have hnb124 := NB398_408.out
                                           have hnc124 := NB408_398.out
                                           have hcz125_0 : wr.cell? ⟨gb398, 0, none⟩ = some (.slice Ao32 t389.length co32) := (blk_cell BK398.out 0).trans rfl
                                           have hcz125_1 : wr.cell? ⟨gb398, 1, none⟩ = some (.slice Ao35 t392.length co35) := (blk_cell BK398.out 1).trans rfl
                                           have hcz125_2 : wr.cell? ⟨gb398, 2, none⟩ = some (.slice Ao36 t395.length co36) := (blk_cell BK398.out 2).trans rfl
                                           have hfz125_0 := blk_frozen BK398.out 0
                                           have hfz125_1 := blk_frozen BK398.out 1
                                           have hfz125_2 := blk_frozen BK398.out 2
                                           have p426 : 0 ≤ (x16_6 : Int) := of_decide_eq_true (by first | (with_reducible assumption) | assumption)
                                           have q426 : x16_6 < (t395.length : Int) := of_decide_eq_true (by first | (with_reducible assumption) | assumption)
                                           obtain ⟨ad426, e426, hx426_0, hx426_1⟩ := at_T45 (Kd.R_reads' HO_399002.out).2.2 x16_6 p426 q426
                                           cases e426
                                           replace p426 := eq_true p426
                                           replace q426 := eq_true q426
                                           have hnb126 := NB388_408.out
                                           have hnc126 := NB408_388.out
                                           have hcz127_0 : wr.cell? ⟨gb388, 0, none⟩ = some (.slice Ao26 t379.length co26) := (blk_cell BK388.out 0).trans rfl
                                           have hcz127_1 : wr.cell? ⟨gb388, 1, none⟩ = some (.slice Ao28 t382.length co28) := (blk_cell BK388.out 1).trans rfl
                                           have hcz127_2 : wr.cell? ⟨gb388, 2, none⟩ = some (.slice Ao29 t385.length co29) := (blk_cell BK388.out 2).trans rfl
                                           have hfz127_0 := blk_frozen BK388.out 0
                                           have hfz127_1 := blk_frozen BK388.out 1
                                           have hfz127_2 := blk_frozen BK388.out 2
                                           have p427 : 0 ≤ (x13_4 : Int) := of_decide_eq_true (by first | (with_reducible assumption) | assumption)
                                           have q427 : x13_4 < (t385.length : Int) := of_decide_eq_true (by first | (with_reducible assumption) | assumption)
                                           obtain ⟨ad427, e427, hx427_0, hx427_1⟩ := at_T45 (Kd.R_reads' HO_389002.out).2.2 x13_4 p427 q427
                                           cases e427
                                           replace p427 := eq_true p427
                                           replace q427 := eq_true q427
                                           have p428 : 0 ≤ (x16_6 : Int) := of_decide_eq_true (by first | (with_reducible assumption) | assumption)
                                           have q428 : x16_6 < (t395.length : Int) := of_decide_eq_true (by first | (with_reducible assumption) | assumption)
                                           obtain ⟨ad428, e428, hx428_0, hx428_1⟩ := at_T45 (Kd.R_reads' HO_399002.out).2.2 x16_6 p428 q428
                                           obtain rfl : ad426 = ad428 := (by injection e428)
                                           replace p428 := eq_true p428
                                           replace q428 := eq_true q428
                                           go_wp2
                                           repeat (go_quiet (fail); try go_wp2)
                                           go_roundg k6
                                           case measure => have := HJ4.out; have := HK2.out; have := HK3.out; have := HK4.out; have := HK5.out; have := HK6.out; omega
                                           case rel => exact ⟨((rd_T45 t395 x16_6).f1), (wrap64 (x16_6 + 1)), (by first | rfl | (simp; done) | (simp [*]; done)), (by first | rfl | (simp; done) | (simp [*]; done)), H', ⟨by have := HJ4.out; have := HK2.out; have := HK3.out; have := HK4.out; have := HK5.out; have := HK6.out; omega⟩, ⟨by (with_reducible repeat (first | apply Kd.R_alloc | apply Kd.R_drewN | apply Kd.R_drew)); exact HO_389000.out⟩, ⟨by (with_reducible repeat (first | apply Kd.R_alloc | apply Kd.R_drewN | apply Kd.R_drew)); exact HO_389001.out⟩, ⟨by (with_reducible repeat (first | apply Kd.R_alloc | apply Kd.R_drewN | apply Kd.R_drew)); exact HO_389002.out⟩, ⟨by (with_reducible repeat (first | apply Kd.R_alloc | apply Kd.R_drewN | apply Kd.R_drew)); exact HO_399000.out⟩, ⟨by (with_reducible repeat (first | apply Kd.R_alloc | apply Kd.R_drewN | apply Kd.R_drew)); exact HO_399001.out⟩, ⟨by (with_reducible repeat (first | apply Kd.R_alloc | apply Kd.R_drewN | apply Kd.R_drew)); exact HO_399002.out⟩, ⟨by (with_reducible repeat (first | apply Kd.R_alloc | apply Kd.R_drewN | apply Kd.R_drew)); exact HO_409000.out⟩, ⟨by (with_reducible repeat (first | apply Kd.R_alloc | apply Kd.R_drewN | apply Kd.R_drew)); exact HO_409001.out⟩, ⟨by (with_reducible repeat (first | apply Kd.R_alloc | apply Kd.R_drewN | apply Kd.R_drew)); exact HO_409002.out⟩, ⟨by (with_reducible repeat (first | refine blk_drewN ?_ _ | refine blk_drew ?_ | refine blk_alloc ?_ _)); exact BK388.out⟩, ⟨by (with_reducible repeat (first | refine blk_drewN ?_ _ | refine blk_drew ?_ | refine blk_alloc ?_ _)); exact BK398.out⟩, ⟨by (with_reducible repeat (first | refine blk_drewN ?_ _ | refine blk_drew ?_ | refine blk_alloc ?_ _)); exact BK408.out⟩, ⟨by repeat (first | (with_reducible first | exact HB.out | apply below_alloc | apply pw_below_drewN | apply below_drew1 | refine below_set ?_ GE388.out | refine below_set ?_ GE398.out | refine below_set ?_ GE408.out) | exact HB.out)⟩⟩
                                         · rw [if_neg c122] at H
                                           have c122b0 : (((rd_T45 t395 x16_6).f0) == ((rd_T45 t385 x13_4).f0)) = false := beq_eq_false_iff_ne.mpr c122
                                           have c122b1 : (((rd_T45 t395 x16_6).f0) != ((rd_T45 t385 x13_4).f0)) = true := bne_iff_ne.mpr c122
                                           have H' := Aside0.mk H
                                           clear H
                                           have hnb128 := NB398_388.out
                                           have hnc128 := NB388_398.out
                                           have hnb129 := NB398_408.out
                                           have hnc129 := NB408_398.out
                                           have hcz130_0 : wr.cell? ⟨gb398, 0, none⟩ = some (.slice Ao32 t389.length co32) := (blk_cell BK398.out 0).trans rfl
                                           have hcz130_1 : wr.cell? ⟨gb398, 1, none⟩ = some (.slice Ao35 t392.length co35) := (blk_cell BK398.out 1).trans rfl
                                           have hcz130_2 : wr.cell? ⟨gb398, 2, none⟩ = some (.slice Ao36 t395.length co36) := (blk_cell BK398.out 2).trans rfl
                                           have hfz130_0 := blk_frozen BK398.out 0
                                           have hfz130_1 := blk_frozen BK398.out 1
                                           have hfz130_2 := blk_frozen BK398.out 2
                                           have p426 : 0 ≤ (x16_6 : Int) := of_decide_eq_true (by first | (with_reducible assumption) | assumption)
                                           have q426 : x16_6 < (t395.length : Int) := of_decide_eq_true (by first | (with_reducible assumption) | assumption)
                                           obtain ⟨ad426, e426, hx426_0, hx426_1⟩ := at_T45 (Kd.R_reads' HO_399002.out).2.2 x16_6 p426 q426
                                           cases e426
                                           replace p426 := eq_true p426
                                           replace q426 := eq_true q426
                                           have hnb131 := NB388_408.out
                                           have hnc131 := NB408_388.out
                                           have hcz132_0 : wr.cell? ⟨gb388, 0, none⟩ = some (.slice Ao26 t379.length co26) := (blk_cell BK388.out 0).trans rfl
                                           have hcz132_1 : wr.cell? ⟨gb388, 1, none⟩ = some (.slice Ao28 t382.length co28) := (blk_cell BK388.out 1).trans rfl
                                           have hcz132_2 : wr.cell? ⟨gb388, 2, none⟩ = some (.slice Ao29 t385.length co29) := (blk_cell BK388.out 2).trans rfl
                                           have hfz132_0 := blk_frozen BK388.out 0
                                           have hfz132_1 := blk_frozen BK388.out 1
                                           have hfz132_2 := blk_frozen BK388.out 2
                                           have p427 : 0 ≤ (x13_4 : Int) := of_decide_eq_true (by first | (with_reducible assumption) | assumption)
                                           have q427 : x13_4 < (t385.length : Int) := of_decide_eq_true (by first | (with_reducible assumption) | assumption)
                                           obtain ⟨ad427, e427, hx427_0, hx427_1⟩ := at_T45 (Kd.R_reads' HO_389002.out).2.2 x13_4 p427 q427
                                           cases e427
                                           replace p427 := eq_true p427
                                           replace q427 := eq_true q427
                                           go_wp2
                                           repeat (go_quiet (fail); try go_wp2)
                                           go_roundg k6
                                           case measure => have := HJ4.out; have := HK2.out; have := HK3.out; have := HK4.out; have := HK5.out; have := HK6.out; omega
                                           case rel => exact ⟨(x14_6), (wrap64 (x16_6 + 1)), (by first | rfl | (simp; done) | (simp [*]; done)), (by first | rfl | (simp; done) | (simp [*]; done)), H', ⟨by have := HJ4.out; have := HK2.out; have := HK3.out; have := HK4.out; have := HK5.out; have := HK6.out; omega⟩, ⟨by (with_reducible repeat (first | apply Kd.R_alloc | apply Kd.R_drewN | apply Kd.R_drew)); exact HO_389000.out⟩, ⟨by (with_reducible repeat (first | apply Kd.R_alloc | apply Kd.R_drewN | apply Kd.R_drew)); exact HO_389001.out⟩, ⟨by (with_reducible repeat (first | apply Kd.R_alloc | apply Kd.R_drewN | apply Kd.R_drew)); exact HO_389002.out⟩, ⟨by (with_reducible repeat (first | apply Kd.R_alloc | apply Kd.R_drewN | apply Kd.R_drew)); exact HO_399000.out⟩, ⟨by (with_reducible repeat (first | apply Kd.R_alloc | apply Kd.R_drewN | apply Kd.R_drew)); exact HO_399001.out⟩, ⟨by (with_reducible repeat (first | apply Kd.R_alloc | apply Kd.R_drewN | apply Kd.R_drew)); exact HO_399002.out⟩, ⟨by (with_reducible repeat (first | apply Kd.R_alloc | apply Kd.R_drewN | apply Kd.R_drew)); exact HO_409000.out⟩, ⟨by (with_reducible repeat (first | apply Kd.R_alloc | apply Kd.R_drewN | apply Kd.R_drew)); exact HO_409001.out⟩, ⟨by (with_reducible repeat (first | apply Kd.R_alloc | apply Kd.R_drewN | apply Kd.R_drew)); exact HO_409002.out⟩, ⟨by (with_reducible repeat (first | refine blk_drewN ?_ _ | refine blk_drew ?_ | refine blk_alloc ?_ _)); exact BK388.out⟩, ⟨by (with_reducible repeat (first | refine blk_drewN ?_ _ | refine blk_drew ?_ | refine blk_alloc ?_ _)); exact BK398.out⟩, ⟨by (with_reducible repeat (first | refine blk_drewN ?_ _ | refine blk_drew ?_ | refine blk_alloc ?_ _)); exact BK408.out⟩, ⟨by repeat (first | (with_reducible first | exact HB.out | apply below_alloc | apply pw_below_drewN | apply below_drew1 | refine below_set ?_ GE388.out | refine below_set ?_ GE398.out | refine below_set ?_ GE408.out) | exact HB.out)⟩⟩
                                       · rw [if_neg c121] at H
                                         exact absurd H (by simp)
                                     · rw [if_neg c120] at H
                                       exact absurd H (by simp)
                                   · rw [if_neg c119] at H
                                     exact absurd H (by simp)
                                 · rw [if_neg c118] at H
                                   have c118b0 : decide (x16_6 < (t395.length : Int)) = false := decide_eq_false c118
                                   clear c118
                                   by_cases c133 : 0 ≤ x13_4
                                   · rw [if_pos c133] at H
                                     have c133b0 : decide (0 ≤ x13_4) = true := decide_eq_true c133
                                     clear c133
                                     by_cases c134 : x13_4 < (t385.length : Int)
                                     · rw [if_pos c134] at H
                                       have c134b0 : decide (x13_4 < (t385.length : Int)) = true := decide_eq_true c134
                                       clear c134
                                       by_cases c135 : x14_6 = ((rd_T45 t385 x13_4).f1)
                                       · rw [if_pos c135] at H
                                         have c135b0 : (x14_6 == ((rd_T45 t385 x13_4).f1)) = true := beq_iff_eq.mpr c135
                                         have c135b1 : (x14_6 != ((rd_T45 t385 x13_4).f1)) = false := bne_eq_false_iff_eq.mpr c135
                                         clear c135
                                         have H' := Aside0.mk H
                                         clear H
                                         have hnb136 := NB398_388.out
                                         have hnc136 := NB388_398.out
                                         have hnb137 := NB398_408.out
                                         have hnc137 := NB408_398.out
                                         have hcz138_0 : wr.cell? ⟨gb398, 0, none⟩ = some (.slice Ao32 t389.length co32) := (blk_cell BK398.out 0).trans rfl
                                         have hcz138_1 : wr.cell? ⟨gb398, 1, none⟩ = some (.slice Ao35 t392.length co35) := (blk_cell BK398.out 1).trans rfl
                                         have hcz138_2 : wr.cell? ⟨gb398, 2, none⟩ = some (.slice Ao36 t395.length co36) := (blk_cell BK398.out 2).trans rfl
                                         have hfz138_0 := blk_frozen BK398.out 0
                                         have hfz138_1 := blk_frozen BK398.out 1
                                         have hfz138_2 := blk_frozen BK398.out 2
                                         have hnb139 := NB388_408.out
                                         have hnc139 := NB408_388.out
                                         have hcz140_0 : wr.cell? ⟨gb388, 0, none⟩ = some (.slice Ao26 t379.length co26) := (blk_cell BK388.out 0).trans rfl
                                         have hcz140_1 : wr.cell? ⟨gb388, 1, none⟩ = some (.slice Ao28 t382.length co28) := (blk_cell BK388.out 1).trans rfl
                                         have hcz140_2 : wr.cell? ⟨gb388, 2, none⟩ = some (.slice Ao29 t385.length co29) := (blk_cell BK388.out 2).trans rfl
                                         have hfz140_0 := blk_frozen BK388.out 0
                                         have hfz140_1 := blk_frozen BK388.out 1
                                         have hfz140_2 := blk_frozen BK388.out 2
                                         have p429 : 0 ≤ (x13_4 : Int) := of_decide_eq_true (by first | (with_reducible assumption) | assumption)
                                         have q429 : x13_4 < (t385.length : Int) := of_decide_eq_true (by first | (with_reducible assumption) | assumption)
                                         obtain ⟨ad429, e429, hx429_0, hx429_1⟩ := at_T45 (Kd.R_reads' HO_389002.out).2.2 x13_4 p429 q429
                                         cases e429
                                         replace p429 := eq_true p429
                                         replace q429 := eq_true q429
                                         go_wp2
                                         repeat (go_quiet (fail); try go_wp2)
                                         go_roundg k6
                                         case measure => have := HJ4.out; have := HK2.out; have := HK3.out; have := HK4.out; have := HK5.out; have := HK6.out; omega
                                         case rel => exact ⟨(wrap64 (x13_4 + 1)), (by first | rfl | (simp; done) | (simp [*]; done)), H', ⟨by have := HJ4.out; have := HK2.out; have := HK3.out; have := HK4.out; have := HK5.out; have := HK6.out; omega⟩, ⟨by (with_reducible repeat (first | apply Kd.R_alloc | apply Kd.R_drewN | apply Kd.R_drew)); exact HO_389000.out⟩, ⟨by (with_reducible repeat (first | apply Kd.R_alloc | apply Kd.R_drewN | apply Kd.R_drew)); exact HO_389001.out⟩, ⟨by (with_reducible repeat (first | apply Kd.R_alloc | apply Kd.R_drewN | apply Kd.R_drew)); exact HO_389002.out⟩, ⟨by (with_reducible repeat (first | apply Kd.R_alloc | apply Kd.R_drewN | apply Kd.R_drew)); exact HO_399000.out⟩, ⟨by (with_reducible repeat (first | apply Kd.R_alloc | apply Kd.R_drewN | apply Kd.R_drew)); exact HO_399001.out⟩, ⟨by (with_reducible repeat (first | apply Kd.R_alloc | apply Kd.R_drewN | apply Kd.R_drew)); exact HO_399002.out⟩, ⟨by (with_reducible repeat (first | apply Kd.R_alloc | apply Kd.R_drewN | apply Kd.R_drew)); exact HO_409000.out⟩, ⟨by (with_reducible repeat (first | apply Kd.R_alloc | apply Kd.R_drewN | apply Kd.R_drew)); exact HO_409001.out⟩, ⟨by (with_reducible repeat (first | apply Kd.R_alloc | apply Kd.R_drewN | apply Kd.R_drew)); exact HO_409002.out⟩, ⟨by (with_reducible repeat (first | refine blk_drewN ?_ _ | refine blk_drew ?_ | refine blk_alloc ?_ _)); exact BK388.out⟩, ⟨by (with_reducible repeat (first | refine blk_drewN ?_ _ | refine blk_drew ?_ | refine blk_alloc ?_ _)); exact BK398.out⟩, ⟨by (with_reducible repeat (first | refine blk_drewN ?_ _ | refine blk_drew ?_ | refine blk_alloc ?_ _)); exact BK408.out⟩, ⟨by repeat (first | (with_reducible first | exact HB.out | apply below_alloc | apply pw_below_drewN | apply below_drew1 | refine below_set ?_ GE388.out | refine below_set ?_ GE398.out | refine below_set ?_ GE408.out) | exact HB.out)⟩⟩
                                       · rw [if_neg c135] at H
                                         have c135b0 : (x14_6 == ((rd_T45 t385 x13_4).f1)) = false := beq_eq_false_iff_ne.mpr c135
                                         have c135b1 : (x14_6 != ((rd_T45 t385 x13_4).f1)) = true := bne_iff_ne.mpr c135
                                         obtain rfl := Option.some.inj H
                                         have hnb141 := NB398_388.out
                                         have hnc141 := NB388_398.out
                                         have hnb142 := NB398_408.out
                                         have hnc142 := NB408_398.out
                                         have hcz143_0 : wr.cell? ⟨gb398, 0, none⟩ = some (.slice Ao32 t389.length co32) := (blk_cell BK398.out 0).trans rfl
                                         have hcz143_1 : wr.cell? ⟨gb398, 1, none⟩ = some (.slice Ao35 t392.length co35) := (blk_cell BK398.out 1).trans rfl
                                         have hcz143_2 : wr.cell? ⟨gb398, 2, none⟩ = some (.slice Ao36 t395.length co36) := (blk_cell BK398.out 2).trans rfl
                                         have hfz143_0 := blk_frozen BK398.out 0
                                         have hfz143_1 := blk_frozen BK398.out 1
                                         have hfz143_2 := blk_frozen BK398.out 2
                                         have hnb144 := NB388_408.out
                                         have hnc144 := NB408_388.out
                                         have hcz145_0 : wr.cell? ⟨gb388, 0, none⟩ = some (.slice Ao26 t379.length co26) := (blk_cell BK388.out 0).trans rfl
                                         have hcz145_1 : wr.cell? ⟨gb388, 1, none⟩ = some (.slice Ao28 t382.length co28) := (blk_cell BK388.out 1).trans rfl
                                         have hcz145_2 : wr.cell? ⟨gb388, 2, none⟩ = some (.slice Ao29 t385.length co29) := (blk_cell BK388.out 2).trans rfl
                                         have hfz145_0 := blk_frozen BK388.out 0
                                         have hfz145_1 := blk_frozen BK388.out 1
                                         have hfz145_2 := blk_frozen BK388.out 2
                                         have p429 : 0 ≤ (x13_4 : Int) := of_decide_eq_true (by first | (with_reducible assumption) | assumption)
                                         have q429 : x13_4 < (t385.length : Int) := of_decide_eq_true (by first | (with_reducible assumption) | assumption)
                                         obtain ⟨ad429, e429, hx429_0, hx429_1⟩ := at_T45 (Kd.R_reads' HO_389002.out).2.2 x13_4 p429 q429
                                         cases e429
                                         replace p429 := eq_true p429
                                         replace q429 := eq_true q429
                                         go_wp2
                                         repeat (go_quiet (fail); try go_wp2)
                                         go_ret
                                         exact ⟨by first | rfl | (simp [errW_none, errW_some] <;> rfl) | (simp [*, errW_none, errW_some] <;> rfl), by repeat (first | (with_reducible first | exact HB.out | apply below_alloc | apply pw_below_drewN | apply below_drew1 | refine below_set ?_ GE388.out | refine below_set ?_ GE398.out | refine below_set ?_ GE408.out) | exact HB.out)⟩
                                     · rw [if_neg c134] at H
                                       exact absurd H (by simp)
                                   · rw [if_neg c133] at H
                                     exact absurd H (by simp)
                         · rw [if_neg c96] at H
                           have c96b0 : decide (x13_4 < (t385.length : Int)) = false := decide_eq_false c96
                           clear c96
                           by_cases c146 : (t385.length : Int) ≥ (t395.length : Int)
                           · rw [if_pos c146] at H
                             have c146b0 : decide ((t395.length : Int) ≤ (t385.length : Int)) = true := decide_eq_true c146
                             have c146b1 : decide (t395.length ≤ t385.length) = true := decide_eq_true (Int.ofNat_le.mp c146)
                             clear c146
                             obtain rfl := Option.some.inj H
                             have hnb147 := NB388_398.out
                             have hnc147 := NB398_388.out
                             have hnb148 := NB388_408.out
                             have hnc148 := NB408_388.out
                             have hcz149_0 : wr.cell? ⟨gb388, 0, none⟩ = some (.slice Ao26 t379.length co26) := (blk_cell BK388.out 0).trans rfl
                             have hcz149_1 : wr.cell? ⟨gb388, 1, none⟩ = some (.slice Ao28 t382.length co28) := (blk_cell BK388.out 1).trans rfl
                             have hcz149_2 : wr.cell? ⟨gb388, 2, none⟩ = some (.slice Ao29 t385.length co29) := (blk_cell BK388.out 2).trans rfl
                             have hfz149_0 := blk_frozen BK388.out 0
                             have hfz149_1 := blk_frozen BK388.out 1
                             have hfz149_2 := blk_frozen BK388.out 2
                             have hnb150 := NB398_408.out
                             have hnc150 := NB408_398.out
                             have hcz151_0 : wr.cell? ⟨gb398, 0, none⟩ = some (.slice Ao32 t389.length co32) := (blk_cell BK398.out 0).trans rfl
                             have hcz151_1 : wr.cell? ⟨gb398, 1, none⟩ = some (.slice Ao35 t392.length co35) := (blk_cell BK398.out 1).trans rfl
                             have hcz151_2 : wr.cell? ⟨gb398, 2, none⟩ = some (.slice Ao36 t395.length co36) := (blk_cell BK398.out 2).trans rfl
                             have hfz151_0 := blk_frozen BK398.out 0
                             have hfz151_1 := blk_frozen BK398.out 1
                             have hfz151_2 := blk_frozen BK398.out 2
                             have hcz152_0 : wr.cell? ⟨gb408, 0, none⟩ = some (.slice Ao39 t399.length co39) := (blk_cell BK408.out 0).trans rfl
                             have hcz152_1 : wr.cell? ⟨gb408, 1, none⟩ = some (.slice Ao43 t402.length co43) := (blk_cell BK408.out 1).trans rfl
                             have hcz152_2 : wr.cell? ⟨gb408, 2, none⟩ = some (.slice Ao44 t405.length co44) := (blk_cell BK408.out 2).trans rfl
                             have hfz152_0 := blk_frozen BK408.out 0
                             have hfz152_1 := blk_frozen BK408.out 1
                             have hfz152_2 := blk_frozen BK408.out 2
                             go_wp2
                             repeat (go_quiet (fail); try go_wp2)
                             go_ret
                             exact ⟨by first | rfl | (simp [errW_none, errW_some] <;> rfl) | (simp [*, errW_none, errW_some] <;> rfl), by repeat (first | (with_reducible first | exact HB.out | apply below_alloc | apply pw_below_drewN | apply below_drew1 | refine below_set ?_ GE388.out | refine below_set ?_ GE398.out | refine below_set ?_ GE408.out) | exact HB.out)⟩
                           · rw [if_neg c146] at H
                             have c146b0 : decide ((t395.length : Int) ≤ (t385.length : Int)) = false := decide_eq_false c146
                             have c146b1 : decide (t395.length ≤ t385.length) = false := decide_eq_false (fun h => c146 (Int.ofNat_le.mpr h))
                             clear c146
                             obtain rfl := Option.some.inj H
                             have hnb153 := NB388_398.out
                             have hnc153 := NB398_388.out
                             have hnb154 := NB388_408.out
                             have hnc154 := NB408_388.out
                             have hcz155_0 : wr.cell? ⟨gb388, 0, none⟩ = some (.slice Ao26 t379.length co26) := (blk_cell BK388.out 0).trans rfl
                             have hcz155_1 : wr.cell? ⟨gb388, 1, none⟩ = some (.slice Ao28 t382.length co28) := (blk_cell BK388.out 1).trans rfl
                             have hcz155_2 : wr.cell? ⟨gb388, 2, none⟩ = some (.slice Ao29 t385.length co29) := (blk_cell BK388.out 2).trans rfl
                             have hfz155_0 := blk_frozen BK388.out 0
                             have hfz155_1 := blk_frozen BK388.out 1
                             have hfz155_2 := blk_frozen BK388.out 2
                             have hnb156 := NB398_408.out
                             have hnc156 := NB408_398.out
                             have hcz157_0 : wr.cell? ⟨gb398, 0, none⟩ = some (.slice Ao32 t389.length co32) := (blk_cell BK398.out 0).trans rfl
                             have hcz157_1 : wr.cell? ⟨gb398, 1, none⟩ = some (.slice Ao35 t392.length co35) := (blk_cell BK398.out 1).trans rfl
                             have hcz157_2 : wr.cell? ⟨gb398, 2, none⟩ = some (.slice Ao36 t395.length co36) := (blk_cell BK398.out 2).trans rfl
                             have hfz157_0 := blk_frozen BK398.out 0
                             have hfz157_1 := blk_frozen BK398.out 1
                             have hfz157_2 := blk_frozen BK398.out 2
                             go_wp2
                             repeat (go_quiet (fail); try go_wp2)
                             go_ret
                             exact ⟨by first | rfl | (simp [errW_none, errW_some] <;> rfl) | (simp [*, errW_none, errW_some] <;> rfl), by repeat (first | (with_reducible first | exact HB.out | apply below_alloc | apply pw_below_drewN | apply below_drew1 | refine below_set ?_ GE388.out | refine below_set ?_ GE398.out | refine below_set ?_ GE408.out) | exact HB.out)⟩
                 · rw [if_neg c79] at H
                   have c79b0 : ((t382.length : Int) == (x8_2.length : Int)) = false := beq_eq_false_iff_ne.mpr c79
                   have c79b1 : ((t382.length : Int) != (x8_2.length : Int)) = true := bne_iff_ne.mpr c79
                   have c79b2 : (t382.length == x8_2.length) = false := by first | simpa using c79 | (simp at c79 ⊢; omega)
                   obtain rfl := Option.some.inj H
                   have hnb158 := NB408_388.out
                   have hnc158 := NB388_408.out
                   have hnb159 := NB408_398.out
                   have hnc159 := NB398_408.out
                   have hcz160_0 : wr.cell? ⟨gb408, 0, none⟩ = some (.slice Ao39 t399.length co39) := (blk_cell BK408.out 0).trans rfl
                   have hcz160_1 : wr.cell? ⟨gb408, 1, none⟩ = some (.slice Ao43 t402.length co43) := (blk_cell BK408.out 1).trans rfl
                   have hcz160_2 : wr.cell? ⟨gb408, 2, none⟩ = some (.slice Ao44 t405.length co44) := (blk_cell BK408.out 2).trans rfl
                   have hfz160_0 := blk_frozen BK408.out 0
                   have hfz160_1 := blk_frozen BK408.out 1
                   have hfz160_2 := blk_frozen BK408.out 2
                   have hnb161 := NB388_398.out
                   have hnc161 := NB398_388.out
                   have hcz162_0 : wr.cell? ⟨gb388, 0, none⟩ = some (.slice Ao26 t379.length co26) := (blk_cell BK388.out 0).trans rfl
                   have hcz162_1 : wr.cell? ⟨gb388, 1, none⟩ = some (.slice Ao28 t382.length co28) := (blk_cell BK388.out 1).trans rfl
                   have hcz162_2 : wr.cell? ⟨gb388, 2, none⟩ = some (.slice Ao29 t385.length co29) := (blk_cell BK388.out 2).trans rfl
                   have hfz162_0 := blk_frozen BK388.out 0
                   have hfz162_1 := blk_frozen BK388.out 1
                   have hfz162_2 := blk_frozen BK388.out 2
                   obtain ⟨Ao163, co163, eo163⟩ := Kd.R_slice HO_8.out
                   subst eo163
                   go_wp2
                   repeat (go_quiet (fail); try go_wp2)
                   go_ret
                   exact ⟨by first | rfl | (simp [errW_none, errW_some] <;> rfl) | (simp [*, errW_none, errW_some] <;> rfl), by repeat (first | (with_reducible first | exact HB.out | apply below_alloc | apply pw_below_drewN | apply below_drew1 | refine below_set ?_ GE388.out | refine below_set ?_ GE398.out | refine below_set ?_ GE408.out) | exact HB.out)⟩
           · rw [if_neg c18] at H
             exact absurd H (by simp)
         · rw [if_neg c14] at H
           exact absurd H (by simp)
       · rw [if_neg c13] at H
         exact absurd H (by simp)
 · replace c4 := Bool.eq_false_iff.mpr c4
   subst c4
   have H1 : (some false) = some r := by rw [if_neg (show ¬ (false = true) by decide)] at H; exact H
   clear H
   have H := H1
   clear H1
   obtain rfl := Option.some.inj H
   go_enter Try.func7, Try.ntmps7
   go_wp2_with (first | (go_at_call 8; (with_reducible refine (seneschallaw17_awake.calls  false _ A3.out).mono ?_); rintro e w164 ⟨rfl, hb⟩; have n0_ := Aside0.mk (below_step (by repeat (first | (with_reducible first | exact HB.out | apply below_alloc | apply pw_below_drewN | apply below_drew1) | exact HB.out)) hb); clear HB; have HB := n0_; clear n0_; (try clear hb); (try clear hb2); (try clear hk); (try clear hi)))
   repeat (go_quiet (fail); try go_wp2_with (fail))
   go_ret
   exact ⟨by first | rfl | (simp [errW_none, errW_some] <;> rfl) | (simp [*, errW_none, errW_some] <;> rfl), by repeat (first | (with_reducible first | exact HB.out | apply below_alloc | apply pw_below_drewN | apply below_drew1) | exact HB.out)⟩

end Go.Proofs.Ytianblmceohmnaa.PAll
