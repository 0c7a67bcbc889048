-- Written by scripts/standin.py (the kit's print with stand-ins) for this claim.
import Derived.Test.YtianblmceohmnaaPAllx0
import Derived.Test.YtianblmceohmnaaPAllx1
import Derived.Test.YtianblmceohmnaaPAllx7
import Derived.Test.YtianblmceohmnaaPAllx8
import Derived.Test.YtianblmceohmnaaPAllx15
import Derived.Test.YtianblmceohmnaaPAllx17
namespace Go.Proofs.Ytianblmceohmnaa.PAll
open Go.RowKit Go.Proofs.YtianblmceohmnaaW.PrintWords Go.Proofs.YtianblmceohmnaaW.PrintLast Go.Proofs.YtianblmceohmnaaW.PrintMore
attribute [local go_sem] max2_int min2_int max_two min_two max_three min_three max_four min_four   -- for this text's walks alone
set_option linter.unusedVariables false
set_option linter.unusedSimpArgs false

attribute [local go_sem high] eqA24
/-! ### seneschallaw17_PastParts: function 4 -/
mutual
def seneschallaw17_PastParts.l0 : Nat → List (S31) → Int → List (S43) → List (S24) → List (S45) → Option (Bool)
 | 0, _, _, _, _, _ => none
 | k + 1, x0, x4, x319000, x319001, x319002 => if x4 < (x319000.length : Int) then (if 0 ≤ (wrap64 (x4 - 1)) then (if (wrap64 (x4 - 1)) < (x319000.length : Int) then (if 0 ≤ x4 then ((past_Less.f k ((rd_T43 x319000 (wrap64 (x4 - 1))).f0.f0) ((rd_T43 x319000 (wrap64 (x4 - 1))).f0.f1) ((rd_T43 x319000 (wrap64 (x4 - 1))).f0.f2) ((rd_T43 x319000 x4).f0.f0) ((rd_T43 x319000 x4).f0.f1) ((rd_T43 x319000 x4).f0.f2)).bind fun t321 => (if t321 = true then (seneschallaw17_PastParts.l0 k x0 (wrap64 (x4 + 1)) x319000 x319001 x319002) else (some false))) else (none)) else (none)) else (none)) else (seneschallaw17_PastParts.l1 k x0 1 x319000 x319001 x319002)
def seneschallaw17_PastParts.l1 : Nat → List (S31) → Int → List (S43) → List (S24) → List (S45) → Option (Bool)
 | 0, _, _, _, _, _ => none
 | k + 1, x0, x5, x319000, x319001, x319002 => if x5 < (x319002.length : Int) then (if 0 ≤ (wrap64 (x5 - 1)) then (if (wrap64 (x5 - 1)) < (x319002.length : Int) then (if 0 ≤ x5 then (if ((rd_T45 x319002 (wrap64 (x5 - 1))).f0) ≥ ((rd_T45 x319002 x5).f0) then (some false) else (seneschallaw17_PastParts.l1 k x0 (wrap64 (x5 + 1)) x319000 x319001 x319002)) else (none)) else (none)) else (none)) else (seneschallaw17_PastParts.l2 k x0 0 x319000 x319001 x319002)
def seneschallaw17_PastParts.l2 : Nat → List (S31) → Int → List (S43) → List (S24) → List (S45) → Option (Bool)
 | 0, _, _, _, _, _ => none
 | k + 1, x0, x6, x319000, x319001, x319002 => if x6 < (x0.length : Int) then (if 0 ≤ x6 then ((entry_Good.f k ((rd_T31 x0 x6).f0) ((rd_T31 x0 x6).f1.f0) ((rd_T31 x0 x6).f1.f1) ((rd_T31 x0 x6).f1.f2) ((rd_T31 x0 x6).f2) ((rd_T31 x0 x6).f3) ((rd_T31 x0 x6).f4) ((rd_T31 x0 x6).f5) ((rd_T31 x0 x6).f6.f0) ((rd_T31 x0 x6).f6.f1) ((rd_T31 x0 x6).f7.f0) ((rd_T31 x0 x6).f7.f1) ((rd_T31 x0 x6).f8)).bind fun t325 => (if t325 = true then ((past_Of.f k x0 ((rd_T31 x0 x6).f1.f0) ((rd_T31 x0 x6).f1.f1) ((rd_T31 x0 x6).f1.f2)).bind fun t327 => (seneschallaw17_PastParts.l3 k x0 x6 t327 false 0 x319000 x319001 x319002)) else (seneschallaw17_PastParts.l2 k x0 (wrap64 (x6 + 1)) x319000 x319001 x319002))) else (none)) else (some true)
def seneschallaw17_PastParts.l3 : Nat → List (S31) → Int → List (S31) → Bool → Int → List (S43) → List (S24) → List (S45) → Option (Bool)
 | 0, _, _, _, _, _, _, _, _ => none
 | k + 1, x0, x6, x7, x8, x9, x319000, x319001, x319002 => if x9 < (x7.length : Int) then (if x8 = true then (seneschallaw17_PastParts.l3 k x0 x6 x7 true (wrap64 (x9 + 1)) x319000 x319001 x319002) else (if 0 ≤ x9 then (if ((rd_T31 x7 x9).f0) = 3 then (seneschallaw17_PastParts.l3 k x0 x6 x7 true (wrap64 (x9 + 1)) x319000 x319001 x319002) else (seneschallaw17_PastParts.l3 k x0 x6 x7 (((rd_T31 x7 x9).f0) == 4) (wrap64 (x9 + 1)) x319000 x319001 x319002)) else (none))) else (seneschallaw17_PastParts.l4 k x0 x6 x7 x8 false 0 x319000 x319001 x319002)
def seneschallaw17_PastParts.l4 : Nat → List (S31) → Int → List (S31) → Bool → Bool → Int → List (S43) → List (S24) → List (S45) → Option (Bool)
 | 0, _, _, _, _, _, _, _, _, _ => none
 | k + 1, x0, x6, x7, x8, x10, x11, x319000, x319001, x319002 => if x11 < (x319000.length : Int) then (if x10 = true then (seneschallaw17_PastParts.l4 k x0 x6 x7 x8 true (wrap64 (x11 + 1)) x319000 x319001 x319002) else (if 0 ≤ x11 then (if 0 ≤ x6 then (if x6 < (x0.length : Int) then (if (((rd_T43 x319000 x11).f0.f0) == ((rd_T31 x0 x6).f1.f0) && (((rd_T43 x319000 x11).f0.f1) == ((rd_T31 x0 x6).f1.f1) && (((rd_T43 x319000 x11).f0.f2) == ((rd_T31 x0 x6).f1.f2)))) = true then (if 0 ≤ (wrap64 ((x7.length : Int) - 1)) then (if (wrap64 ((x7.length : Int) - 1)) < (x7.length : Int) then (seneschallaw17_PastParts.l4 k x0 x6 x7 x8 (((rd_T43 x319000 x11).f1) == ((rd_T31 x7 (wrap64 ((x7.length : Int) - 1))).f2)) (wrap64 (x11 + 1)) x319000 x319001 x319002) else (none)) else (none)) else (seneschallaw17_PastParts.l4 k x0 x6 x7 x8 false (wrap64 (x11 + 1)) x319000 x319001 x319002)) else (none)) else (none)) else (none))) else (seneschallaw17_PastParts.l5 k x0 x6 x8 x10 0 0 x319000 x319001 x319002)
def seneschallaw17_PastParts.l5 : Nat → List (S31) → Int → Bool → Bool → Int → Int → List (S43) → List (S24) → List (S45) → Option (Bool)
 | 0, _, _, _, _, _, _, _, _, _ => none
 | k + 1, x0, x6, x8, x10, x12, x13, x319000, x319001, x319002 => if x13 < (x319001.length : Int) then (if 0 ≤ x13 then (if 0 ≤ x6 then (if x6 < (x0.length : Int) then (if (((rd_T24 x319001 x13).f0) == ((rd_T31 x0 x6).f1.f0) && (((rd_T24 x319001 x13).f1) == ((rd_T31 x0 x6).f1.f1) && (((rd_T24 x319001 x13).f2) == ((rd_T31 x0 x6).f1.f2)))) = true then (seneschallaw17_PastParts.l5 k x0 x6 x8 x10 (wrap64 (x12 + 1)) (wrap64 (x13 + 1)) x319000 x319001 x319002) else (seneschallaw17_PastParts.l5 k x0 x6 x8 x10 x12 (wrap64 (x13 + 1)) x319000 x319001 x319002)) else (none)) else (none)) else (none)) else (if (x8 == x10) = true then (some false) else (if x12 > 1 then (some false) else (if x12 = 1 then (if x8 = true then (seneschallaw17_PastParts.l2 k x0 (wrap64 (x6 + 1)) x319000 x319001 x319002) else (some false)) else (seneschallaw17_PastParts.l2 k x0 (wrap64 (x6 + 1)) x319000 x319001 x319002))))
end
def seneschallaw17_PastParts.f (k : Nat) (l0 : List (S31)) : Option (Bool) := (seneschallaw17_awake.f).bind fun t307 => (if t307 = true then ((seneschallaw17_great.f k l0).bind fun t308 => (if t308 = true then (some true) else ((past_Read.f l0 1).bind fun bt309 => (seneschallaw17_PastParts.l0 k l0 1 bt309.1 bt309.2.1 bt309.2.2)))) else (some false))
theorem seneschallaw17_PastParts.mono_l : ∀ k, (∀ y0 y1 y2 y3 y4, LeO (seneschallaw17_PastParts.l0 k y0 y1 y2 y3 y4) (seneschallaw17_PastParts.l0 (k + 1) y0 y1 y2 y3 y4)) ∧ (∀ y0 y1 y2 y3 y4, LeO (seneschallaw17_PastParts.l1 k y0 y1 y2 y3 y4) (seneschallaw17_PastParts.l1 (k + 1) y0 y1 y2 y3 y4)) ∧ (∀ y0 y1 y2 y3 y4, LeO (seneschallaw17_PastParts.l2 k y0 y1 y2 y3 y4) (seneschallaw17_PastParts.l2 (k + 1) y0 y1 y2 y3 y4)) ∧ (∀ y0 y1 y2 y3 y4 y5 y6 y7, LeO (seneschallaw17_PastParts.l3 k y0 y1 y2 y3 y4 y5 y6 y7) (seneschallaw17_PastParts.l3 (k + 1) y0 y1 y2 y3 y4 y5 y6 y7)) ∧ (∀ y0 y1 y2 y3 y4 y5 y6 y7 y8, LeO (seneschallaw17_PastParts.l4 k y0 y1 y2 y3 y4 y5 y6 y7 y8) (seneschallaw17_PastParts.l4 (k + 1) y0 y1 y2 y3 y4 y5 y6 y7 y8)) ∧ (∀ y0 y1 y2 y3 y4 y5 y6 y7 y8, LeO (seneschallaw17_PastParts.l5 k y0 y1 y2 y3 y4 y5 y6 y7 y8) (seneschallaw17_PastParts.l5 (k + 1) y0 y1 y2 y3 y4 y5 y6 y7 y8))
 | 0 => ⟨fun _ _ _ _ _ r h => by simp [seneschallaw17_PastParts.l0] at h, fun _ _ _ _ _ r h => by simp [seneschallaw17_PastParts.l1] at h, fun _ _ _ _ _ r h => by simp [seneschallaw17_PastParts.l2] at h, fun _ _ _ _ _ _ _ _ r h => by simp [seneschallaw17_PastParts.l3] at h, fun _ _ _ _ _ _ _ _ _ r h => by simp [seneschallaw17_PastParts.l4] at h, fun _ _ _ _ _ _ _ _ _ r h => by simp [seneschallaw17_PastParts.l5] at h⟩
 | k + 1 => by
  obtain ⟨ih0, ih1, ih2, ih3, ih4, ih5⟩ := seneschallaw17_PastParts.mono_l k
  refine ⟨?_, ?_, ?_, ?_, ?_, ?_⟩
  · intro y0 y1 y2 y3 y4
    unfold seneschallaw17_PastParts.l0
    repeat' first
    | (with_reducible exact ih0 _ _ _ _ _)
    | (with_reducible exact ih1 _ _ _ _ _)
    | (with_reducible exact ih2 _ _ _ _ _)
    | (with_reducible exact ih3 _ _ _ _ _ _ _ _)
    | (with_reducible exact ih4 _ _ _ _ _ _ _ _ _)
    | (with_reducible exact ih5 _ _ _ _ _ _ _ _ _)
    | (with_reducible exact entry_Good.mono _ _ _ _ _ _ _ _ _ _ _ _ _ _)
    | (with_reducible exact past_Less.mono _ _ _ _ _ _ _)
    | (with_reducible exact past_Of.mono _ _ _ _ _)
    | (with_reducible exact seneschallaw17_great.mono _ _)
    | (with_reducible exact LeO.refl _)
    | (with_reducible exact LeO.none _)
    | (with_reducible refine LeO.ite ?_ ?_)
    | (with_reducible refine LeO.bind ?_ (fun _ => ?_))
    | exact ih0 _ _ _ _ _
    | exact ih1 _ _ _ _ _
    | exact ih2 _ _ _ _ _
    | exact ih3 _ _ _ _ _ _ _ _
    | exact ih4 _ _ _ _ _ _ _ _ _
    | exact ih5 _ _ _ _ _ _ _ _ _
    | exact entry_Good.mono _ _ _ _ _ _ _ _ _ _ _ _ _ _
    | exact past_Less.mono _ _ _ _ _ _ _
    | exact past_Of.mono _ _ _ _ _
    | exact seneschallaw17_great.mono _ _
    | exact LeO.none _
    | refine LeO.ite ?_ ?_
    | refine LeO.bind ?_ (fun _ => ?_)
  · intro y0 y1 y2 y3 y4
    unfold seneschallaw17_PastParts.l1
    repeat' first
    | (with_reducible exact ih0 _ _ _ _ _)
    | (with_reducible exact ih1 _ _ _ _ _)
    | (with_reducible exact ih2 _ _ _ _ _)
    | (with_reducible exact ih3 _ _ _ _ _ _ _ _)
    | (with_reducible exact ih4 _ _ _ _ _ _ _ _ _)
    | (with_reducible exact ih5 _ _ _ _ _ _ _ _ _)
    | (with_reducible exact entry_Good.mono _ _ _ _ _ _ _ _ _ _ _ _ _ _)
    | (with_reducible exact past_Less.mono _ _ _ _ _ _ _)
    | (with_reducible exact past_Of.mono _ _ _ _ _)
    | (with_reducible exact seneschallaw17_great.mono _ _)
    | (with_reducible exact LeO.refl _)
    | (with_reducible exact LeO.none _)
    | (with_reducible refine LeO.ite ?_ ?_)
    | (with_reducible refine LeO.bind ?_ (fun _ => ?_))
    | exact ih0 _ _ _ _ _
    | exact ih1 _ _ _ _ _
    | exact ih2 _ _ _ _ _
    | exact ih3 _ _ _ _ _ _ _ _
    | exact ih4 _ _ _ _ _ _ _ _ _
    | exact ih5 _ _ _ _ _ _ _ _ _
    | exact entry_Good.mono _ _ _ _ _ _ _ _ _ _ _ _ _ _
    | exact past_Less.mono _ _ _ _ _ _ _
    | exact past_Of.mono _ _ _ _ _
    | exact seneschallaw17_great.mono _ _
    | exact LeO.none _
    | refine LeO.ite ?_ ?_
    | refine LeO.bind ?_ (fun _ => ?_)
  · intro y0 y1 y2 y3 y4
    unfold seneschallaw17_PastParts.l2
    repeat' first
    | (with_reducible exact ih0 _ _ _ _ _)
    | (with_reducible exact ih1 _ _ _ _ _)
    | (with_reducible exact ih2 _ _ _ _ _)
    | (with_reducible exact ih3 _ _ _ _ _ _ _ _)
    | (with_reducible exact ih4 _ _ _ _ _ _ _ _ _)
    | (with_reducible exact ih5 _ _ _ _ _ _ _ _ _)
    | (with_reducible exact entry_Good.mono _ _ _ _ _ _ _ _ _ _ _ _ _ _)
    | (with_reducible exact past_Less.mono _ _ _ _ _ _ _)
    | (with_reducible exact past_Of.mono _ _ _ _ _)
    | (with_reducible exact seneschallaw17_great.mono _ _)
    | (with_reducible exact LeO.refl _)
    | (with_reducible exact LeO.none _)
    | (with_reducible refine LeO.ite ?_ ?_)
    | (with_reducible refine LeO.bind ?_ (fun _ => ?_))
    | exact ih0 _ _ _ _ _
    | exact ih1 _ _ _ _ _
    | exact ih2 _ _ _ _ _
    | exact ih3 _ _ _ _ _ _ _ _
    | exact ih4 _ _ _ _ _ _ _ _ _
    | exact ih5 _ _ _ _ _ _ _ _ _
    | exact entry_Good.mono _ _ _ _ _ _ _ _ _ _ _ _ _ _
    | exact past_Less.mono _ _ _ _ _ _ _
    | exact past_Of.mono _ _ _ _ _
    | exact seneschallaw17_great.mono _ _
    | exact LeO.none _
    | refine LeO.ite ?_ ?_
    | refine LeO.bind ?_ (fun _ => ?_)
  · intro y0 y1 y2 y3 y4 y5 y6 y7
    unfold seneschallaw17_PastParts.l3
    repeat' first
    | (with_reducible exact ih0 _ _ _ _ _)
    | (with_reducible exact ih1 _ _ _ _ _)
    | (with_reducible exact ih2 _ _ _ _ _)
    | (with_reducible exact ih3 _ _ _ _ _ _ _ _)
    | (with_reducible exact ih4 _ _ _ _ _ _ _ _ _)
    | (with_reducible exact ih5 _ _ _ _ _ _ _ _ _)
    | (with_reducible exact entry_Good.mono _ _ _ _ _ _ _ _ _ _ _ _ _ _)
    | (with_reducible exact past_Less.mono _ _ _ _ _ _ _)
    | (with_reducible exact past_Of.mono _ _ _ _ _)
    | (with_reducible exact seneschallaw17_great.mono _ _)
    | (with_reducible exact LeO.refl _)
    | (with_reducible exact LeO.none _)
    | (with_reducible refine LeO.ite ?_ ?_)
    | (with_reducible refine LeO.bind ?_ (fun _ => ?_))
    | exact ih0 _ _ _ _ _
    | exact ih1 _ _ _ _ _
    | exact ih2 _ _ _ _ _
    | exact ih3 _ _ _ _ _ _ _ _
    | exact ih4 _ _ _ _ _ _ _ _ _
    | exact ih5 _ _ _ _ _ _ _ _ _
    | exact entry_Good.mono _ _ _ _ _ _ _ _ _ _ _ _ _ _
    | exact past_Less.mono _ _ _ _ _ _ _
    | exact past_Of.mono _ _ _ _ _
    | exact seneschallaw17_great.mono _ _
    | exact LeO.none _
    | refine LeO.ite ?_ ?_
    | refine LeO.bind ?_ (fun _ => ?_)
  · intro y0 y1 y2 y3 y4 y5 y6 y7 y8
    unfold seneschallaw17_PastParts.l4
    repeat' first
    | (with_reducible exact ih0 _ _ _ _ _)
    | (with_reducible exact ih1 _ _ _ _ _)
    | (with_reducible exact ih2 _ _ _ _ _)
    | (with_reducible exact ih3 _ _ _ _ _ _ _ _)
    | (with_reducible exact ih4 _ _ _ _ _ _ _ _ _)
    | (with_reducible exact ih5 _ _ _ _ _ _ _ _ _)
    | (with_reducible exact entry_Good.mono _ _ _ _ _ _ _ _ _ _ _ _ _ _)
    | (with_reducible exact past_Less.mono _ _ _ _ _ _ _)
    | (with_reducible exact past_Of.mono _ _ _ _ _)
    | (with_reducible exact seneschallaw17_great.mono _ _)
    | (with_reducible exact LeO.refl _)
    | (with_reducible exact LeO.none _)
    | (with_reducible refine LeO.ite ?_ ?_)
    | (with_reducible refine LeO.bind ?_ (fun _ => ?_))
    | exact ih0 _ _ _ _ _
    | exact ih1 _ _ _ _ _
    | exact ih2 _ _ _ _ _
    | exact ih3 _ _ _ _ _ _ _ _
    | exact ih4 _ _ _ _ _ _ _ _ _
    | exact ih5 _ _ _ _ _ _ _ _ _
    | exact entry_Good.mono _ _ _ _ _ _ _ _ _ _ _ _ _ _
    | exact past_Less.mono _ _ _ _ _ _ _
    | exact past_Of.mono _ _ _ _ _
    | exact seneschallaw17_great.mono _ _
    | exact LeO.none _
    | refine LeO.ite ?_ ?_
    | refine LeO.bind ?_ (fun _ => ?_)
  · intro y0 y1 y2 y3 y4 y5 y6 y7 y8
    unfold seneschallaw17_PastParts.l5
    repeat' first
    | (with_reducible exact ih0 _ _ _ _ _)
    | (with_reducible exact ih1 _ _ _ _ _)
    | (with_reducible exact ih2 _ _ _ _ _)
    | (with_reducible exact ih3 _ _ _ _ _ _ _ _)
    | (with_reducible exact ih4 _ _ _ _ _ _ _ _ _)
    | (with_reducible exact ih5 _ _ _ _ _ _ _ _ _)
    | (with_reducible exact entry_Good.mono _ _ _ _ _ _ _ _ _ _ _ _ _ _)
    | (with_reducible exact past_Less.mono _ _ _ _ _ _ _)
    | (with_reducible exact past_Of.mono _ _ _ _ _)
    | (with_reducible exact seneschallaw17_great.mono _ _)
    | (with_reducible exact LeO.refl _)
    | (with_reducible exact LeO.none _)
    | (with_reducible refine LeO.ite ?_ ?_)
    | (with_reducible refine LeO.bind ?_ (fun _ => ?_))
    | exact ih0 _ _ _ _ _
    | exact ih1 _ _ _ _ _
    | exact ih2 _ _ _ _ _
    | exact ih3 _ _ _ _ _ _ _ _
    | exact ih4 _ _ _ _ _ _ _ _ _
    | exact ih5 _ _ _ _ _ _ _ _ _
    | exact entry_Good.mono _ _ _ _ _ _ _ _ _ _ _ _ _ _
    | exact past_Less.mono _ _ _ _ _ _ _
    | exact past_Of.mono _ _ _ _ _
    | exact seneschallaw17_great.mono _ _
    | exact LeO.none _
    | refine LeO.ite ?_ ?_
    | refine LeO.bind ?_ (fun _ => ?_)
theorem seneschallaw17_PastParts.mono : ∀ a0 k, LeO (seneschallaw17_PastParts.f k a0) (seneschallaw17_PastParts.f (k + 1) a0) := by
 intro a0 k
 obtain ⟨ih0, ih1, ih2, ih3, ih4, ih5⟩ := seneschallaw17_PastParts.mono_l k
 unfold seneschallaw17_PastParts.f
 repeat' first
  | (with_reducible exact ih0 _ _ _ _ _)
  | (with_reducible exact ih1 _ _ _ _ _)
  | (with_reducible exact ih2 _ _ _ _ _)
  | (with_reducible exact ih3 _ _ _ _ _ _ _ _)
  | (with_reducible exact ih4 _ _ _ _ _ _ _ _ _)
  | (with_reducible exact ih5 _ _ _ _ _ _ _ _ _)
  | (with_reducible exact entry_Good.mono _ _ _ _ _ _ _ _ _ _ _ _ _ _)
  | (with_reducible exact past_Less.mono _ _ _ _ _ _ _)
  | (with_reducible exact past_Of.mono _ _ _ _ _)
  | (with_reducible exact seneschallaw17_great.mono _ _)
  | (with_reducible exact LeO.refl _)
  | (with_reducible exact LeO.none _)
  | (with_reducible refine LeO.ite ?_ ?_)
  | (with_reducible refine LeO.bind ?_ (fun _ => ?_))
  | exact ih0 _ _ _ _ _
  | exact ih1 _ _ _ _ _
  | exact ih2 _ _ _ _ _
  | exact ih3 _ _ _ _ _ _ _ _
  | exact ih4 _ _ _ _ _ _ _ _ _
  | exact ih5 _ _ _ _ _ _ _ _ _
  | exact entry_Good.mono _ _ _ _ _ _ _ _ _ _ _ _ _ _
  | exact past_Less.mono _ _ _ _ _ _ _
  | exact past_Of.mono _ _ _ _ _
  | exact seneschallaw17_great.mono _ _
  | exact LeO.none _
  | refine LeO.ite ?_ ?_
  | refine LeO.bind ?_ (fun _ => ?_)
def seneschallaw17_PastParts.T9 : Bool × List (List Nat × List Nat) := (true, [([], []), ([0], [0]), ([], []), ([2], [2]), ([1, 3], [1, 3]), ([4], [4]), ([5], [5]), ([], []), ([7], [7]), ([], []), ([8, 9], [8, 9]), ([10], [10]), ([11], [11]), ([6, 12], [6, 12]), ([13], [13])])
def seneschallaw17_PastParts.B9 : List Nat := [0, 1, 0, 4, 15, 31, 63, 0, 128, 0, 896, 1920, 3968, 8191, 16383]
theorem seneschallaw17_PastParts.tab9 : rtab .any (opsOf Try.f4 9) = seneschallaw17_PastParts.T9 := by kernel_rfl
theorem seneschallaw17_PastParts.bits9 : waitsOk seneschallaw17_PastParts.T9.2 seneschallaw17_PastParts.B9 = true := by kernel_rfl
def seneschallaw17_PastParts.T14 : Bool × List (List Nat × List Nat) := (true, [([], []), ([0], [0]), ([], []), ([2], [2]), ([1, 3], [1, 3]), ([4], [4]), ([5], [5]), ([], []), ([7], [7]), ([], []), ([8, 9], [8, 9]), ([10], [10]), ([11], [11]), ([6, 12], [6, 12])])
def seneschallaw17_PastParts.B14 : List Nat := [0, 1, 0, 4, 15, 31, 63, 0, 128, 0, 896, 1920, 3968, 8191]
theorem seneschallaw17_PastParts.tab14 : rtab .any (opsOf Try.f4 14) = seneschallaw17_PastParts.T14 := by kernel_rfl
theorem seneschallaw17_PastParts.bits14 : waitsOk seneschallaw17_PastParts.T14.2 seneschallaw17_PastParts.B14 = true := by kernel_rfl
def seneschallaw17_PastParts.T30 : Bool × List (List Nat × List Nat) := (true, [([], []), ([0], [0]), ([1], [1]), ([2, 1], [1, 2]), ([1], [1]), ([3, 4, 1], [1, 3, 4]), ([5, 1], [1, 5]), ([6, 1], [1, 6]), ([1], [1]), ([1], [1]), ([8, 9, 1], [1, 8, 9]), ([10, 1], [1, 10]), ([11, 1], [1, 11]), ([7, 12, 1], [1, 7, 12]), ([13, 1, 1], [1, 13]), ([14], [14]), ([15, 14], [14, 15]), ([14], [14]), ([16, 17, 14], [14, 16, 17]), ([18, 14], [14, 18]), ([19, 14], [14, 19]), ([14], [14]), ([14], [14]), ([22, 14], [14, 22]), ([23, 14], [14, 23]), ([21, 24, 14], [14, 21, 24]), ([25, 14], [14, 25]), ([26, 14], [14, 26]), ([20, 27, 14], [14, 20, 27]), ([14, 28, 1], [1, 14, 28]), ([1, 29], [1, 29]), ([30, 14, 0, 1, 2, 3, 4, 5, 6, 7, 8, 9, 10, 11, 12, 13, 14, 15, 16, 17, 18, 19, 20, 21, 22, 23, 24, 25, 26, 27, 28, 29, 30], [0, 30])])
def seneschallaw17_PastParts.B30 : List Nat := [0, 1, 3, 7, 3, 31, 63, 127, 3, 3, 771, 1795, 3843, 8191, 16383, 32767, 65535, 32767, 262143, 524287, 1048575, 32767, 32767, 4227071, 12615679, 31490047, 65044479, 132153343, 268435455, 536870911, 1073741823, 2147483647]
theorem seneschallaw17_PastParts.tab30 : rtab .any (opsOf Try.f4 30) = seneschallaw17_PastParts.T30 := by kernel_rfl
theorem seneschallaw17_PastParts.bits30 : waitsOk seneschallaw17_PastParts.T30.2 seneschallaw17_PastParts.B30 = true := by kernel_rfl
def seneschallaw17_PastParts.T35 : Bool × List (List Nat × List Nat) := (true, [([], []), ([0], [0]), ([], []), ([1, 2], [1, 2]), ([3], [3]), ([], []), ([], []), ([5, 6], [5, 6]), ([7], [7]), ([8], [8]), ([4, 9], [4, 9])])
def seneschallaw17_PastParts.B35 : List Nat := [0, 1, 0, 7, 15, 0, 0, 96, 224, 480, 1023]
theorem seneschallaw17_PastParts.tab35 : rtab .any (opsOf Try.f4 35) = seneschallaw17_PastParts.T35 := by kernel_rfl
theorem seneschallaw17_PastParts.bits35 : waitsOk seneschallaw17_PastParts.T35.2 seneschallaw17_PastParts.B35 = true := by kernel_rfl
set_option maxHeartbeats 8000000 in
set_option maxRecDepth 100000 in
theorem seneschallaw17_PastParts.calls (k : Nat) (A0 : Option Addr) (c0 : Nat) (l0 : List (S31)) (r : Bool) (w : World) (hr0 : Kd.C k31 w A0 l0.length l0) (hc0 : l0.length ≤ c0) (h : seneschallaw17_PastParts.f k l0 = some r) :
 Calls Try.prog 4 #[.slice A0 l0.length c0] w fun e w' => e = .returned (.bool r) ∧ Below w.heap.size w w' := by
 have hu37 := Try.underlying37
 have hu24 := Try.underlying24
 have hu31 := Try.underlying31
 have HR0 := Aside0.mk hr0
 have HC0 := Aside0.mk hc0
 clear hr0 hc0
 have HB := Aside0.mk (Below.refl w.heap.size w)
 have H : ((seneschallaw17_awake.f).bind fun t307 => (if t307 = true then ((seneschallaw17_great.f k l0).bind fun t308 => (if t308 = true then (some true) else ((past_Read.f l0 1).bind fun bt309 => (seneschallaw17_PastParts.l0 k l0 1 bt309.1 bt309.2.1 bt309.2.2)))) else (some false))) = some r := h
 clear h
 replace H := Option.bind_eq_some_iff.mp H
 obtain ⟨t307, A20, H⟩ := H
 replace H : (if t307 = true then ((seneschallaw17_great.f k l0).bind fun t308 => (if t308 = true then (some true) else ((past_Read.f l0 1).bind fun bt309 => (seneschallaw17_PastParts.l0 k l0 1 bt309.1 bt309.2.1 bt309.2.2)))) else (some false)) = some r := H
 have A2 := Aside0.mk A20
 clear A20
 by_cases c3 : t307 = true
 · subst c3
   have H1 : ((seneschallaw17_great.f k l0).bind fun t308 => (if t308 = true then (some true) else ((past_Read.f l0 1).bind fun bt309 => (seneschallaw17_PastParts.l0 k l0 1 bt309.1 bt309.2.1 bt309.2.2)))) = some r := by rw [if_pos rfl] at H; exact H
   clear H
   have H := H1
   clear H1
   replace H := Option.bind_eq_some_iff.mp H
   obtain ⟨t308, A40, H⟩ := H
   replace H : (if t308 = true then (some true) else ((past_Read.f l0 1).bind fun bt309 => (seneschallaw17_PastParts.l0 k l0 1 bt309.1 bt309.2.1 bt309.2.2))) = some r := H
   have A4 := Aside0.mk A40
   clear A40
   by_cases c5 : t308 = true
   · subst c5
     have H1 : (some true) = some r := by rw [if_pos rfl] at H; exact H
     clear H
     have H := H1
     clear H1
     obtain rfl := Option.some.inj H
     go_enter Try.func4, Try.ntmps4
     go_wp2_with (first | ((with_reducible refine gate_callee (f := 8) rfl ?_); refine goesL_ (some 14) rfl rfl Try.func8 (by kernel_rfl) rfl #[] rfl (by (try simp only [List.map_toArray, List.map_cons, List.map_nil]); first | done | rfl | (simp only [List.length_drop, List.length_take]; rfl)) ?_; (with_reducible refine (seneschallaw17_awake.calls  true _ A2.out).mono ?_); rintro e w6 ⟨rfl, hb⟩; refine ⟨_, rfl, ?_⟩; have n0_ := Aside0.mk (below_step (by repeat (first | (with_reducible first | exact HB.out | apply below_alloc | apply pw_below_drewN | apply below_drew1) | exact HB.out)) hb); clear HB; have HB := n0_; clear n0_; (try clear hb); (try clear hb2); (try clear hk); (try clear hi)) | ((with_reducible refine gate_callee (f := 9) rfl ?_); refine goesL_ (some 17) rfl rfl Try.func9 (by kernel_rfl) rfl #[.slice A0 l0.length c0] rfl (by (try simp only [List.map_toArray, List.map_cons, List.map_nil]); first | done | rfl | (simp only [List.length_drop, List.length_take]; rfl)) ?_; (with_reducible refine (seneschallaw17_great.calls k _ _ l0 true _ ?side1 ?side2 A4.out).mono ?_); (case side1 => repeat (first | exact (Kd.C_below HR0.out HB.out) | (with_reducible refine Kd.C_alloc ?_ _) | (with_reducible refine Kd.C_drewN ?_ _) | (with_reducible refine Kd.C_drew ?_))); (case side2 => exact HC0.out); rintro e w' ⟨rfl, ⟨nd, rfl⟩⟩; refine ⟨_, rfl, ?_⟩))
     go_ret
     exact ⟨by first | rfl | (simp [errW_none, errW_some] <;> rfl) | (simp [*, errW_none, errW_some] <;> rfl), by repeat (first | (with_reducible first | exact HB.out | apply below_alloc | apply pw_below_drewN | apply below_drew1) | exact HB.out)⟩
   · replace c5 := Bool.eq_false_iff.mpr c5
     subst c5
     have H1 : ((past_Read.f l0 1).bind fun bt309 => (seneschallaw17_PastParts.l0 k l0 1 bt309.1 bt309.2.1 bt309.2.2)) = some r := by rw [if_neg (show ¬ (false = true) by decide)] at H; exact H
     clear H
     have H := H1
     clear H1
     replace H := Option.bind_eq_some_iff.mp H
     obtain ⟨⟨t309, t312, t315⟩, A70, H⟩ := H
     replace H : (seneschallaw17_PastParts.l0 k l0 1 t309 t312 t315) = some r := H
     have A7 := Aside0.mk A70
     clear A70
     have H' := Aside0.mk H
     clear H
     go_enter Try.func4, Try.ntmps4
     go_wp2_with (first | ((with_reducible refine gate_callee (f := 8) rfl ?_); refine goesL_ (some 14) rfl rfl Try.func8 (by kernel_rfl) rfl #[] rfl (by (try simp only [List.map_toArray, List.map_cons, List.map_nil]); first | done | rfl | (simp only [List.length_drop, List.length_take]; rfl)) ?_; (with_reducible refine (seneschallaw17_awake.calls  true _ A2.out).mono ?_); rintro e w8 ⟨rfl, hb⟩; refine ⟨_, rfl, ?_⟩; have n0_ := Aside0.mk (below_step (by repeat (first | (with_reducible first | exact HB.out | apply below_alloc | apply pw_below_drewN | apply below_drew1) | exact HB.out)) hb); clear HB; have HB := n0_; clear n0_; (try clear hb); (try clear hb2); (try clear hk); (try clear hi)) | ((with_reducible refine gate_callee (f := 9) rfl ?_); refine goesL_ (some 17) rfl rfl Try.func9 (by kernel_rfl) rfl #[.slice A0 l0.length c0] rfl (by (try simp only [List.map_toArray, List.map_cons, List.map_nil]); first | done | rfl | (simp only [List.length_drop, List.length_take]; rfl)) ?_; (with_reducible refine (seneschallaw17_great.calls k _ _ l0 false _ ?side1 ?side2 A4.out).mono ?_); (case side1 => repeat (first | exact (Kd.C_below HR0.out HB.out) | (with_reducible refine Kd.C_alloc ?_ _) | (with_reducible refine Kd.C_drewN ?_ _) | (with_reducible refine Kd.C_drew ?_))); (case side2 => exact HC0.out); rintro e w' ⟨rfl, ⟨nd, rfl⟩⟩; refine ⟨_, rfl, ?_⟩; (try (rw [drewN_self w8]; generalize hq_ : World.drewN w8 _ = w8; have n0_ : Aside0 (Below w.heap.size w w8) := ⟨by rw [← hq_]; exact (by repeat (first | (with_reducible first | exact HB.out | apply below_alloc | apply pw_below_drewN | apply below_drew1) | exact HB.out))⟩; clear HB hq_; have HB := n0_; clear n0_))) | ((with_reducible refine gate_callee (f := 13) rfl ?_); refine goesL_ (some 19) rfl rfl Try.func13 (by kernel_rfl) rfl #[.slice A0 l0.length c0, .int .i64 1] rfl (by (try simp only [List.map_toArray, List.map_cons, List.map_nil]); first | done | rfl | (simp only [List.length_drop, List.length_take]; rfl)) ?_; (with_reducible refine (past_Read.calls _ _ l0 1 t309 t312 t315 _ ?side1 ?side2 A7.out).mono ?_); (case side1 => repeat (first | exact (Kd.C_below HR0.out HB.out) | (with_reducible refine Kd.C_alloc ?_ _) | (with_reducible refine Kd.C_drewN ?_ _) | (with_reducible refine Kd.C_drew ?_))); (case side2 => exact HC0.out); rintro e w9 ⟨v310, v313, v316, rfl, ho0, ho1, ho2, hb⟩; refine ⟨_, rfl, ?_⟩; have n0_ := Aside0.mk (Kd.R_lower ho0 (below_size (by repeat (first | (with_reducible first | exact HB.out | apply below_alloc | apply pw_below_drewN | apply below_drew1) | exact HB.out)))); have n1_ := Aside0.mk (Kd.R_lower ho1 (below_size (by repeat (first | (with_reducible first | exact HB.out | apply below_alloc | apply pw_below_drewN | apply below_drew1) | exact HB.out)))); have n2_ := Aside0.mk (Kd.R_lower ho2 (below_size (by repeat (first | (with_reducible first | exact HB.out | apply below_alloc | apply pw_below_drewN | apply below_drew1) | exact HB.out)))); have n3_ := Aside0.mk (below_step (by repeat (first | (with_reducible first | exact HB.out | apply below_alloc | apply pw_below_drewN | apply below_drew1) | exact HB.out)) hb); clear HB; have HO311 := n0_; have HO314 := n1_; have HO317 := n2_; have HB := n3_; clear n0_ n1_ n2_ n3_; (try clear hb); (try clear hb2); (try clear hk); (try clear hi); (try clear ho0); (try clear ho1); (try clear ho2)) | ((with_reducible refine gate_dst (N := 3) rfl ?_); (try (refine gate_guard (by rfl) ?_; dsimp only)); refine box_event ?hg (N := 3) ?hd (cs := #[.slice none 0 0, .slice none 0 0, .slice none 0 0]) (t := 37) ?hr ?_; (case hd => rfl); (case hg => rfl); (case hr => first | (go_simp; done) | (go_simp; rfl)); intro gb318 hg w10 hbox hb; have n0_ := Aside0.mk (Kd.R_below (by (with_reducible repeat (first | apply Kd.R_alloc | apply Kd.R_drewN | apply Kd.R_drew)); exact HO311.out) hb); have n1_ := Aside0.mk (Kd.R_below (by (with_reducible repeat (first | apply Kd.R_alloc | apply Kd.R_drewN | apply Kd.R_drew)); exact HO314.out) hb); have n2_ := Aside0.mk (Kd.R_below (by (with_reducible repeat (first | apply Kd.R_alloc | apply Kd.R_drewN | apply Kd.R_drew)); exact HO317.out) hb); have n3_ := Aside0.mk (below_step (by repeat (first | (with_reducible first | exact HB.out | apply below_alloc | apply pw_below_drewN | apply below_drew1) | exact HB.out)) hb); have n4_ := Aside0.mk (hbox); have n5_ := Aside0.mk ((by rw [hg]; exact (below_size (by repeat (first | (with_reducible first | exact HB.out | apply below_alloc | apply pw_below_drewN | apply below_drew1) | exact HB.out))) : w.heap.size ≤ gb318)); have n6_ := Aside0.mk ((by rw [hg]; exact (below_size (by repeat (first | (with_reducible first | exact HB.out | apply below_alloc | apply pw_below_drewN | apply below_drew1) | exact HB.out))) : w.heap.size ≤ gb318)); clear HO311; clear HO314; clear HO317; clear HB; have HO311 := n0_; have HO314 := n1_; have HO317 := n2_; have HB := n3_; have BK318 := n4_; have GW318 := n5_; have GE318 := n6_; clear n0_ n1_ n2_ n3_ n4_ n5_ n6_; clear hb hbox hg; obtain ⟨Ao11, co11, eo11⟩ := Kd.R_slice HO311.out; subst eo11; have hcz12_0 : w10.cell? ⟨gb318, 0, none⟩ = some (.slice none 0 0) := (blk_cell BK318.out 0).trans rfl; have hcz12_1 : w10.cell? ⟨gb318, 1, none⟩ = some (.slice none 0 0) := (blk_cell BK318.out 1).trans rfl; have hcz12_2 : w10.cell? ⟨gb318, 2, none⟩ = some (.slice none 0 0) := (blk_cell BK318.out 2).trans rfl; have hfz12_0 := blk_frozen BK318.out 0; have hfz12_1 := blk_frozen BK318.out 1; have hfz12_2 := blk_frozen BK318.out 2; obtain ⟨Ao13, co13, eo13⟩ := Kd.R_slice HO314.out; subst eo13; obtain ⟨Ao14, co14, eo14⟩ := Kd.R_slice HO317.out; subst eo14))
     go_loopg [4] k (fun kq v4 w' => ∃ (x4_1 : Int), v4 = .int .i64 x4_1 ∧ Aside0 (seneschallaw17_PastParts.l0 kq l0 x4_1 t309 t312 t315 = some r) ∧ Aside0 (kq ≤ k) ∧ Aside0 (Kd.R k43 43 w' w.heap.size (fun _ => True) (.slice Ao11 t309.length co11) t309) ∧ Aside0 (Kd.R k24 24 w' w.heap.size (fun _ => True) (.slice Ao13 t312.length co13) t312) ∧ Aside0 (Kd.R k45 45 w' w.heap.size (fun _ => True) (.slice Ao14 t315.length co14) t315) ∧ Aside0 (w'.heap[gb318]? = some (.cells #[(.slice Ao11 t309.length co11), (.slice Ao13 t312.length co13), (.slice Ao14 t315.length co14)] 37 (0, 0))) ∧ Aside0 (Below w.heap.size w w'))
     case atStart => exact ⟨(1), (by first | rfl | (simp; done) | (simp [*]; done)), H', ⟨Nat.le_refl _⟩, ⟨by (with_reducible repeat (first | apply Kd.R_alloc | apply Kd.R_drewN | apply Kd.R_drew)); exact Kd.R_mono (Kd.R_far (p := ⟨gb318, 2, none⟩) (Kd.R_far (p := ⟨gb318, 1, none⟩) (Kd.R_far (p := ⟨gb318, 0, none⟩) (Kd.R_types HO311.out BK318.out (by decide)) (fun _ hk => hk.2) (.slice Ao11 t309.length co11)) (fun _ hk => hk.2) (.slice Ao13 t312.length co13)) (fun _ hk => hk.2) (.slice Ao14 t315.length co14)) (fun _ hk => trivial)⟩, ⟨by (with_reducible repeat (first | apply Kd.R_alloc | apply Kd.R_drewN | apply Kd.R_drew)); exact Kd.R_mono (Kd.R_far (p := ⟨gb318, 2, none⟩) (Kd.R_far (p := ⟨gb318, 1, none⟩) (Kd.R_far (p := ⟨gb318, 0, none⟩) (Kd.R_types HO314.out BK318.out (by decide)) (fun _ hk => hk.2) (.slice Ao11 t309.length co11)) (fun _ hk => hk.2) (.slice Ao13 t312.length co13)) (fun _ hk => hk.2) (.slice Ao14 t315.length co14)) (fun _ hk => trivial)⟩, ⟨by (with_reducible repeat (first | apply Kd.R_alloc | apply Kd.R_drewN | apply Kd.R_drew)); exact Kd.R_mono (Kd.R_far (p := ⟨gb318, 2, none⟩) (Kd.R_far (p := ⟨gb318, 1, none⟩) (Kd.R_far (p := ⟨gb318, 0, none⟩) (Kd.R_types HO317.out BK318.out (by decide)) (fun _ hk => hk.2) (.slice Ao11 t309.length co11)) (fun _ hk => hk.2) (.slice Ao13 t312.length co13)) (fun _ hk => hk.2) (.slice Ao14 t315.length co14)) (fun _ hk => trivial)⟩, ⟨by (with_reducible repeat (first | refine blk_drewN ?_ _ | refine blk_drew ?_ | refine blk_alloc ?_ _)); refine blk_put (cs := #[.slice Ao11 t309.length co11, .slice Ao13 t312.length co13, .slice none 0 0]) ?_ 2 _ rfl; (with_reducible repeat (first | refine blk_drewN ?_ _ | refine blk_drew ?_ | refine blk_alloc ?_ _)); refine blk_put (cs := #[.slice Ao11 t309.length co11, .slice none 0 0, .slice none 0 0]) ?_ 1 _ rfl; (with_reducible repeat (first | refine blk_drewN ?_ _ | refine blk_drew ?_ | refine blk_alloc ?_ _)); refine blk_put (cs := #[.slice none 0 0, .slice none 0 0, .slice none 0 0]) ?_ 0 _ rfl; (with_reducible repeat (first | refine blk_drewN ?_ _ | refine blk_drew ?_ | refine blk_alloc ?_ _)); exact BK318.out⟩, ⟨by repeat (first | (with_reducible first | exact HB.out | apply below_alloc | apply pw_below_drewN | apply below_drew1 | refine below_set ?_ GE318.out) | exact HB.out)⟩⟩
     case round =>
      clear H'
      try clear c1
      try clear p2
      try clear c3
      try clear c4
      try clear c5
      try clear c8
      try clear c9
      try clear c13
      try clear hcz12_0
      try clear hcz12_1
      try clear hcz12_2
      try clear hfz12_0
      try clear hfz12_1
      try clear hfz12_2
      obtain ⟨x4_1, rfl, HA, HK1, HO_319000, HO_319001, HO_319002, BK318, HB⟩ := hrel
      cases gk with
      | zero => exact absurd HA.out (by simp [seneschallaw17_PastParts.l0])
      | succ k1 =>
       have H := HA.out
       clear HA
       simp only [seneschallaw17_PastParts.l0] at H
       by_cases c15 : x4_1 < (t309.length : Int)
       · rw [if_pos c15] at H
         have c15b0 : decide (x4_1 < (t309.length : Int)) = true := decide_eq_true c15
         clear c15
         obtain ⟨ji16, hji16⟩ : ∃ j_ : Int, (wrap64 (x4_1 - 1)) = j_ := ⟨_, rfl⟩
         replace H : (if 0 ≤ (ji16) then (if (ji16) < (t309.length : Int) then (if 0 ≤ x4_1 then ((past_Less.f k1 ((rd_T43 t309 (ji16)).f0.f0) ((rd_T43 t309 (ji16)).f0.f1) ((rd_T43 t309 (ji16)).f0.f2) ((rd_T43 t309 x4_1).f0.f0) ((rd_T43 t309 x4_1).f0.f1) ((rd_T43 t309 x4_1).f0.f2)).bind fun t321 => (if t321 = true then (seneschallaw17_PastParts.l0 k1 l0 (wrap64 (x4_1 + 1)) t309 t312 t315) else (some false))) else (none)) else (none)) else (none)) = some r := by first | (rw [hji16] at H; exact H) | (simp only [hji16] at H ⊢; exact H)
         have hji16w : (IntKind.i64.wrap (x4_1 - 1)) = ji16 := (i64_w _).trans hji16
         by_cases c17 : 0 ≤ (ji16)
         · rw [if_pos c17] at H
           have c17b0 : decide (0 ≤ (ji16)) = true := decide_eq_true c17
           clear c17
           by_cases c18 : (ji16) < (t309.length : Int)
           · rw [if_pos c18] at H
             have c18b0 : decide ((ji16) < (t309.length : Int)) = true := decide_eq_true c18
             clear c18
             by_cases c19 : 0 ≤ x4_1
             · rw [if_pos c19] at H
               have c19b0 : decide (0 ≤ x4_1) = true := decide_eq_true c19
               clear c19
               replace H := Option.bind_eq_some_iff.mp H
               obtain ⟨t321, A200, H⟩ := H
               replace H : (if t321 = true then (seneschallaw17_PastParts.l0 k1 l0 (wrap64 (x4_1 + 1)) t309 t312 t315) else (some false)) = some r := H
               have A20 := Aside0.mk A200
               clear A200
               by_cases c21 : t321 = true
               · subst c21
                 have H1 : (seneschallaw17_PastParts.l0 k1 l0 (wrap64 (x4_1 + 1)) t309 t312 t315) = some r := by rw [if_pos rfl] at H; exact H
                 clear H
                 have H := H1
                 clear H1
                 have H' := Aside0.mk H
                 clear H
                 have hcz22_0 : wr.cell? ⟨gb318, 0, none⟩ = some (.slice Ao11 t309.length co11) := (blk_cell BK318.out 0).trans rfl
                 have hcz22_1 : wr.cell? ⟨gb318, 1, none⟩ = some (.slice Ao13 t312.length co13) := (blk_cell BK318.out 1).trans rfl
                 have hcz22_2 : wr.cell? ⟨gb318, 2, none⟩ = some (.slice Ao14 t315.length co14) := (blk_cell BK318.out 2).trans rfl
                 have hfz22_0 := blk_frozen BK318.out 0
                 have hfz22_1 := blk_frozen BK318.out 1
                 have hfz22_2 := blk_frozen BK318.out 2
                 try go_wp2
                 have n0_ := Aside0.mk (Kd.R_drew HO_319000.out)
                 have n1_ := Aside0.mk (Kd.R_drew HO_319001.out)
                 have n2_ := Aside0.mk (Kd.R_drew HO_319002.out)
                 have n3_ := Aside0.mk (blk_drew BK318.out)
                 have n4_ := Aside0.mk (below_drew1 HB.out)
                 clear HO_319000
                 clear HO_319001
                 clear HO_319002
                 clear BK318
                 clear HB
                 have HO_319000 := n0_
                 have HO_319001 := n1_
                 have HO_319002 := n2_
                 have BK318 := n3_
                 have HB := n4_
                 clear n0_ n1_ n2_ n3_ n4_
                 have p319 : 0 ≤ ((ji16) : Int) := of_decide_eq_true (by first | (with_reducible assumption) | assumption)
                 have q319 : (ji16) < (t309.length : Int) := of_decide_eq_true (by first | (with_reducible assumption) | assumption)
                 obtain ⟨ad319, e319, hx319_0, hx319_1, hx319_2, hx319_3⟩ := at_T43 (Kd.R_reads' HO_319000.out).2.2 (ji16) p319 q319
                 cases e319
                 replace p319 := eq_true p319
                 replace q319 := eq_true q319
                 have p320 : 0 ≤ (x4_1 : Int) := of_decide_eq_true (by first | (with_reducible assumption) | assumption)
                 have q320 : x4_1 < (t309.length : Int) := of_decide_eq_true (by first | (with_reducible assumption) | assumption)
                 obtain ⟨ad320, e320, hx320_0, hx320_1, hx320_2, hx320_3⟩ := at_T43 (Kd.R_reads' HO_319000.out).2.2 x4_1 p320 q320
                 obtain rfl : ad319 = ad320 := (by injection e320)
                 replace p320 := eq_true p320
                 replace q320 := eq_true q320
                 refine start_ (n := 15) (S := fun w' => w'.cell? ⟨gb318, 0, none⟩ = some (.slice (some ad319) t309.length co11) ∧ w'.cell? ⟨gb318, 1, none⟩ = some (.slice Ao13 t312.length co13) ∧ w'.cell? ⟨gb318, 2, none⟩ = some (.slice Ao14 t315.length co14) ∧ w'.cell? (ad319.add (((ji16)).toNat * 4)) = some (.int .i64 ((rd_T43 t309 (ji16)).f0.f0)) ∧ w'.cell? ⟨(ad319.add (((ji16)).toNat * 4)).block, (ad319.add (((ji16)).toNat * 4)).off + 1, none⟩ = some (.int .i64 ((rd_T43 t309 (ji16)).f0.f1)) ∧ w'.cell? ⟨(ad319.add (((ji16)).toNat * 4)).block, (ad319.add (((ji16)).toNat * 4)).off + 2, none⟩ = some (.int .i64 ((rd_T43 t309 (ji16)).f0.f2)) ∧ w'.cell? ⟨(ad319.add (((ji16)).toNat * 4)).block, (ad319.add (((ji16)).toNat * 4)).off + 3, none⟩ = some (.int .i64 ((rd_T43 t309 (ji16)).f1)) ∧ w'.cell? (ad319.add ((x4_1).toNat * 4)) = some (.int .i64 ((rd_T43 t309 x4_1).f0.f0)) ∧ w'.cell? ⟨(ad319.add ((x4_1).toNat * 4)).block, (ad319.add ((x4_1).toNat * 4)).off + 1, none⟩ = some (.int .i64 ((rd_T43 t309 x4_1).f0.f1)) ∧ w'.cell? ⟨(ad319.add ((x4_1).toNat * 4)).block, (ad319.add ((x4_1).toNat * 4)).off + 2, none⟩ = some (.int .i64 ((rd_T43 t309 x4_1).f0.f2)) ∧ w'.cell? ⟨(ad319.add ((x4_1).toNat * 4)).block, (ad319.add ((x4_1).toNat * 4)).off + 3, none⟩ = some (.int .i64 ((rd_T43 t309 x4_1).f1))) (ds := []) #[false, false, false, false, false, false, false, false, false, false, false, false, false, false, false] (by kernel_rfl) rfl rfl ⟨(blk_cell BK318.out 0).trans rfl, (blk_cell BK318.out 1).trans rfl, (blk_cell BK318.out 2).trans rfl, hx319_0, hx319_1, hx319_2, hx319_3, hx320_0, hx320_1, hx320_2, hx320_3⟩ (fun hHeld => ?_); refine with_tabW seneschallaw17_PastParts.tab9 seneschallaw17_PastParts.bits9 (fun HT_ HW_ => ?_)
                 generalize wr.drew = w23 at HO_319000 HO_319001 HO_319002 BK318 HB hx319_0 hx319_1 hx319_2 hx319_3 hx320_0 hx320_1 hx320_2 hx320_3 hHeld ⊢
                 refine pure_ (i := 0) (N := some 27) (v := ?_) (a' := ?_) #[true, false, false, false, false, false, false, false, false, false, false, false, false, false, false] rfl rfl (any_of HT_.out (by kernel_rfl)) (fun _ _ _ h => h) (Or.inl ⟨by rfl, ?_⟩) ?_ ?_; rotate_left; intro w'; go_simp; with_reducible rfl; rotate_left; simp only [Act.put, List.setIfInBounds_toArray, List.set_cons_zero, List.set_cons_succ, i64_w, i32_w]; rfl
                 refine pure_ (i := 2) (N := some 29) (v := ?_) (a' := ?_) #[true, false, true, false, false, false, false, false, false, false, false, false, false, false, false] rfl rfl (any_of HT_.out (by kernel_rfl)) (fun _ _ _ h => h) (Or.inl ⟨by rfl, ?_⟩) ?_ ?_; rotate_left; intro w'; go_simp; with_reducible rfl; rotate_left; simp only [Act.put, List.setIfInBounds_toArray, List.set_cons_zero, List.set_cons_succ, i64_w, i32_w]; rfl
                 refine pure_ (i := 3) (N := some 30) (v := ?_) (a' := ?_) #[true, false, true, true, false, false, false, false, false, false, false, false, false, false, false] rfl rfl (any_of HT_.out (by kernel_rfl)) (fun _ _ _ h => h) (Or.inl ⟨by rfl, ?_⟩) ?_ ?_; rotate_left; intro w'; go_simp; with_reducible rfl; rotate_left; simp only [Act.put, List.setIfInBounds_toArray, List.set_cons_zero, List.set_cons_succ, i64_w, i32_w]; rfl
                 refine pure_ (i := 7) (N := some 34) (v := ?_) (a' := ?_) #[true, false, true, true, false, false, false, true, false, false, false, false, false, false, false] rfl rfl (any_of HT_.out (by kernel_rfl)) (fun _ _ _ h => h) (Or.inl ⟨by rfl, ?_⟩) ?_ ?_; rotate_left; intro w'; go_simp; with_reducible rfl; rotate_left; simp only [Act.put, List.setIfInBounds_toArray, List.set_cons_zero, List.set_cons_succ, i64_w, i32_w]; rfl
                 refine pure_ (i := 9) (N := some 36) (v := ?_) (a' := ?_) #[true, false, true, true, false, false, false, true, false, true, false, false, false, false, false] rfl rfl (any_of HT_.out (by kernel_rfl)) (fun _ _ _ h => h) (Or.inl ⟨by rfl, ?_⟩) ?_ ?_; rotate_left; intro w'; go_simp; with_reducible rfl; rotate_left; simp only [Act.put, List.setIfInBounds_toArray, List.set_cons_zero, List.set_cons_succ, i64_w, i32_w]; rfl
                 refine take_ (i := 1) (N := some 28) (v := ?_) (a' := ?_) #[true, true, true, true, false, false, false, true, false, true, false, false, false, false, false] rfl rfl (take_ofW HT_.out HW_.out (by kernel_rfl)) (fun _ _ _ h => h) (Or.inl ⟨by rfl, ?_⟩) hHeld ?_ ?_; rotate_left; rintro w' ⟨s0, s1, s2, s3, s4, s5, s6, s7, s8, s9, s10⟩; go_simp; with_reducible rfl; rotate_left; simp only [Act.put, List.setIfInBounds_toArray, List.set_cons_zero, List.set_cons_succ, i64_w, i32_w]; rfl
                 refine pure_ (i := 4) (N := some 31) (v := ?_) (a' := ?_) #[true, true, true, true, true, false, false, true, false, true, false, false, false, false, false] rfl rfl (any_of HT_.out (by kernel_rfl)) (fun _ _ _ h => h) (Or.inl ⟨by rfl, ?_⟩) ?_ ?_; rotate_left; intro w'; go_simp; with_reducible rfl; rotate_left; simp only [Act.put, List.setIfInBounds_toArray, List.set_cons_zero, List.set_cons_succ, i64_w, i32_w]; rfl
                 refine pure_ (i := 5) (N := some 32) (v := ?_) (a' := ?_) #[true, true, true, true, true, true, false, true, false, true, false, false, false, false, false] rfl rfl (any_of HT_.out (by kernel_rfl)) (fun _ _ _ h => h) (Or.inl ⟨by rfl, ?_⟩) ?_ ?_; rotate_left; intro w'; go_simp; with_reducible rfl; rotate_left; simp only [Act.put, List.setIfInBounds_toArray, List.set_cons_zero, List.set_cons_succ, i64_w, i32_w]; rfl
                 refine take_ (i := 6) (N := some 33) (v := ?_) (a' := ?_) #[true, true, true, true, true, true, true, true, false, true, false, false, false, false, false] rfl rfl (take_ofW HT_.out HW_.out (by kernel_rfl)) (fun _ _ _ h => h) (Or.inl ⟨by rfl, ?_⟩) hHeld ?_ ?_; rotate_left; rintro w' ⟨s0, s1, s2, s3, s4, s5, s6, s7, s8, s9, s10⟩; go_simp; with_reducible rfl; rotate_left; simp only [Act.put, List.setIfInBounds_toArray, List.set_cons_zero, List.set_cons_succ, i64_w, i32_w]; rfl
                 refine take_ (i := 8) (N := some 35) (v := ?_) (a' := ?_) #[true, true, true, true, true, true, true, true, true, true, false, false, false, false, false] rfl rfl (take_ofW HT_.out HW_.out (by kernel_rfl)) (fun _ _ _ h => h) (Or.inl ⟨by rfl, ?_⟩) hHeld ?_ ?_; rotate_left; rintro w' ⟨s0, s1, s2, s3, s4, s5, s6, s7, s8, s9, s10⟩; go_simp; with_reducible rfl; rotate_left; simp only [Act.put, List.setIfInBounds_toArray, List.set_cons_zero, List.set_cons_succ, i64_w, i32_w]; rfl
                 refine pure_ (i := 10) (N := some 37) (v := ?_) (a' := ?_) #[true, true, true, true, true, true, true, true, true, true, true, false, false, false, false] rfl rfl (any_of HT_.out (by kernel_rfl)) (fun _ _ _ h => h) (Or.inl ⟨by rfl, ?_⟩) ?_ ?_; rotate_left; intro w'; go_simp; with_reducible rfl; rotate_left; simp only [Act.put, List.setIfInBounds_toArray, List.set_cons_zero, List.set_cons_succ, i64_w, i32_w]; rfl
                 refine pure_ (i := 11) (N := some 38) (v := ?_) (a' := ?_) #[true, true, true, true, true, true, true, true, true, true, true, true, false, false, false] rfl rfl (any_of HT_.out (by kernel_rfl)) (fun _ _ _ h => h) (Or.inl ⟨by rfl, ?_⟩) ?_ ?_; rotate_left; intro w'; go_simp; with_reducible rfl; rotate_left; simp only [Act.put, List.setIfInBounds_toArray, List.set_cons_zero, List.set_cons_succ, i64_w, i32_w]; rfl
                 refine take_ (i := 12) (N := some 39) (v := ?_) (a' := ?_) #[true, true, true, true, true, true, true, true, true, true, true, true, true, false, false] rfl rfl (take_ofW HT_.out HW_.out (by kernel_rfl)) (fun _ _ _ h => h) (Or.inl ⟨by rfl, ?_⟩) hHeld ?_ ?_; rotate_left; rintro w' ⟨s0, s1, s2, s3, s4, s5, s6, s7, s8, s9, s10⟩; go_simp; with_reducible rfl; rotate_left; simp only [Act.put, List.setIfInBounds_toArray, List.set_cons_zero, List.set_cons_succ, i64_w, i32_w]; rfl
                 refine one_ (i := 13) (N := some 40) #[true, true, true, true, true, true, true, true, true, true, true, true, true, true, false] rfl rfl (one_of HT_.out (by kernel_rfl)) (by decide) (fun K hK => ?_)
                 refine goes_ Try.func17 (by kernel_rfl) rfl #[.agg #[.int .i64 ((rd_T43 t309 (ji16)).f0.f0), .int .i64 ((rd_T43 t309 (ji16)).f0.f1), .int .i64 ((rd_T43 t309 (ji16)).f0.f2)], .agg #[.int .i64 ((rd_T43 t309 x4_1).f0.f0), .int .i64 ((rd_T43 t309 x4_1).f0.f1), .int .i64 ((rd_T43 t309 x4_1).f0.f2)]] (by rfl) rfl rfl (by (try simp only [List.map_toArray, List.map_cons, List.map_nil]); first | done | (simp only [hji16]; rfl) | rfl | (simp only [List.length_drop, List.length_take]; rfl)) ?_
                 with_reducible refine (past_Less.calls k1 ((rd_T43 t309 (ji16)).f0.f0) ((rd_T43 t309 (ji16)).f0.f1) ((rd_T43 t309 (ji16)).f0.f2) ((rd_T43 t309 x4_1).f0.f0) ((rd_T43 t309 x4_1).f0.f1) ((rd_T43 t309 x4_1).f0.f2) true _ A20.out).mono ?_
                 rintro e w24 ⟨rfl, hb⟩
                 have HS3_ := (hb.cell (World.block_lt_of_cell? _ _ (hHeld.2.2.2.1))).trans (hHeld.2.2.2.1)
                 have HS4_ := (hb.cell (World.block_lt_of_cell? _ _ (hHeld.2.2.2.2.1))).trans (hHeld.2.2.2.2.1)
                 have HS5_ := (hb.cell (World.block_lt_of_cell? _ _ (hHeld.2.2.2.2.2.1))).trans (hHeld.2.2.2.2.2.1)
                 have HS6_ := (hb.cell (World.block_lt_of_cell? _ _ (hHeld.2.2.2.2.2.2.1))).trans (hHeld.2.2.2.2.2.2.1)
                 have HS7_ := (hb.cell (World.block_lt_of_cell? _ _ (hHeld.2.2.2.2.2.2.2.1))).trans (hHeld.2.2.2.2.2.2.2.1)
                 have HS8_ := (hb.cell (World.block_lt_of_cell? _ _ (hHeld.2.2.2.2.2.2.2.2.1))).trans (hHeld.2.2.2.2.2.2.2.2.1)
                 have HS9_ := (hb.cell (World.block_lt_of_cell? _ _ (hHeld.2.2.2.2.2.2.2.2.2.1))).trans (hHeld.2.2.2.2.2.2.2.2.2.1)
                 have HS10_ := (hb.cell (World.block_lt_of_cell? _ _ (hHeld.2.2.2.2.2.2.2.2.2.2))).trans (hHeld.2.2.2.2.2.2.2.2.2.2)
                 refine ⟨_, rfl, ?_⟩
                 have n0_ := Aside0.mk (Kd.R_below (by (with_reducible repeat (first | apply Kd.R_alloc | apply Kd.R_drewN | apply Kd.R_drew)); exact HO_319000.out) hb)
                 have n1_ := Aside0.mk (Kd.R_below (by (with_reducible repeat (first | apply Kd.R_alloc | apply Kd.R_drewN | apply Kd.R_drew)); exact HO_319001.out) hb)
                 have n2_ := Aside0.mk (Kd.R_below (by (with_reducible repeat (first | apply Kd.R_alloc | apply Kd.R_drewN | apply Kd.R_drew)); exact HO_319002.out) hb)
                 have n3_ := Aside0.mk (blk_below (g := gb318) (o := .cells #[.slice (some ad319) t309.length co11, .slice Ao13 t312.length co13, .slice Ao14 t315.length co14] 37 (0, 0)) (by (with_reducible repeat (first | refine blk_drewN ?_ _ | refine blk_drew ?_ | refine blk_alloc ?_ _)); exact BK318.out) hb)
                 have n4_ := Aside0.mk (below_step (by repeat (first | (with_reducible first | exact HB.out | apply below_alloc | apply pw_below_drewN | apply below_drew1 | refine below_set ?_ GE318.out) | exact HB.out)) hb)
                 clear HO_319000
                 clear HO_319001
                 clear HO_319002
                 clear BK318
                 clear HB
                 have HO_319000 := n0_
                 have HO_319001 := n1_
                 have HO_319002 := n2_
                 have BK318 := n3_
                 have HB := n4_
                 clear n0_ n1_ n2_ n3_ n4_
                 (try clear hb)
                 (try clear hb2)
                 (try clear hk)
                 (try clear hi)
                 refine hK.out _ _ ⟨(blk_cell BK318.out 0).trans rfl, (blk_cell BK318.out 1).trans rfl, (blk_cell BK318.out 2).trans rfl, HS3_, HS4_, HS5_, HS6_, HS7_, HS8_, HS9_, HS10_⟩ (fun hHeld => ?_)
                 clear hK K
                 refine norm_ (a' := ?_) ?_ ?_
                 rotate_left
                 · show Act.put _ (some 40) _ = _
                   simp only [Act.put, List.setIfInBounds_toArray, List.set_cons_zero, List.set_cons_succ, i64_w, i32_w]
                   rfl
                 refine pure_ (i := 14) (N := some 41) (v := ?_) (a' := ?_) #[true, true, true, true, true, true, true, true, true, true, true, true, true, true, true] rfl rfl (any_of HT_.out (by kernel_rfl)) (fun _ _ _ h => h) (Or.inl ⟨by rfl, ?_⟩) ?_ ?_; rotate_left; intro w'; go_simp; with_reducible rfl; rotate_left; simp only [Act.put, List.setIfInBounds_toArray, List.set_cons_zero, List.set_cons_succ, i64_w, i32_w]; rfl
                 refine done_ (done_of HT_.out (by kernel_rfl)) ?_
                 try go_wp2
                 go_roundg k1
                 case measure => have := HK1.out; omega
                 case rel => exact ⟨(wrap64 (x4_1 + 1)), (by first | rfl | (simp; done) | (simp [*]; done)), H', ⟨by have := HK1.out; omega⟩, ⟨by (with_reducible repeat (first | apply Kd.R_alloc | apply Kd.R_drewN | apply Kd.R_drew)); exact HO_319000.out⟩, ⟨by (with_reducible repeat (first | apply Kd.R_alloc | apply Kd.R_drewN | apply Kd.R_drew)); exact HO_319001.out⟩, ⟨by (with_reducible repeat (first | apply Kd.R_alloc | apply Kd.R_drewN | apply Kd.R_drew)); exact HO_319002.out⟩, ⟨by (with_reducible repeat (first | refine blk_drewN ?_ _ | refine blk_drew ?_ | refine blk_alloc ?_ _)); exact BK318.out⟩, ⟨by repeat (first | (with_reducible first | exact HB.out | apply below_alloc | apply pw_below_drewN | apply below_drew1 | refine below_set ?_ GE318.out) | exact HB.out)⟩⟩
               · replace c21 := Bool.eq_false_iff.mpr c21
                 subst c21
                 have H1 : (some false) = some r := by rw [if_neg (show ¬ (false = true) by decide)] at H; exact H
                 clear H
                 have H := H1
                 clear H1
                 obtain rfl := Option.some.inj H
                 have hcz25_0 : wr.cell? ⟨gb318, 0, none⟩ = some (.slice Ao11 t309.length co11) := (blk_cell BK318.out 0).trans rfl
                 have hcz25_1 : wr.cell? ⟨gb318, 1, none⟩ = some (.slice Ao13 t312.length co13) := (blk_cell BK318.out 1).trans rfl
                 have hcz25_2 : wr.cell? ⟨gb318, 2, none⟩ = some (.slice Ao14 t315.length co14) := (blk_cell BK318.out 2).trans rfl
                 have hfz25_0 := blk_frozen BK318.out 0
                 have hfz25_1 := blk_frozen BK318.out 1
                 have hfz25_2 := blk_frozen BK318.out 2
                 try go_wp2
                 have n0_ := Aside0.mk (Kd.R_drew HO_319000.out)
                 have n1_ := Aside0.mk (Kd.R_drew HO_319001.out)
                 have n2_ := Aside0.mk (Kd.R_drew HO_319002.out)
                 have n3_ := Aside0.mk (blk_drew BK318.out)
                 have n4_ := Aside0.mk (below_drew1 HB.out)
                 clear HO_319000
                 clear HO_319001
                 clear HO_319002
                 clear BK318
                 clear HB
                 have HO_319000 := n0_
                 have HO_319001 := n1_
                 have HO_319002 := n2_
                 have BK318 := n3_
                 have HB := n4_
                 clear n0_ n1_ n2_ n3_ n4_
                 have p319 : 0 ≤ ((ji16) : Int) := of_decide_eq_true (by first | (with_reducible assumption) | assumption)
                 have q319 : (ji16) < (t309.length : Int) := of_decide_eq_true (by first | (with_reducible assumption) | assumption)
                 obtain ⟨ad319, e319, hx319_0, hx319_1, hx319_2, hx319_3⟩ := at_T43 (Kd.R_reads' HO_319000.out).2.2 (ji16) p319 q319
                 cases e319
                 replace p319 := eq_true p319
                 replace q319 := eq_true q319
                 have p320 : 0 ≤ (x4_1 : Int) := of_decide_eq_true (by first | (with_reducible assumption) | assumption)
                 have q320 : x4_1 < (t309.length : Int) := of_decide_eq_true (by first | (with_reducible assumption) | assumption)
                 obtain ⟨ad320, e320, hx320_0, hx320_1, hx320_2, hx320_3⟩ := at_T43 (Kd.R_reads' HO_319000.out).2.2 x4_1 p320 q320
                 obtain rfl : ad319 = ad320 := (by injection e320)
                 replace p320 := eq_true p320
                 replace q320 := eq_true q320
                 refine start_ (n := 15) (S := fun w' => w'.cell? ⟨gb318, 0, none⟩ = some (.slice (some ad319) t309.length co11) ∧ w'.cell? ⟨gb318, 1, none⟩ = some (.slice Ao13 t312.length co13) ∧ w'.cell? ⟨gb318, 2, none⟩ = some (.slice Ao14 t315.length co14) ∧ w'.cell? (ad319.add (((ji16)).toNat * 4)) = some (.int .i64 ((rd_T43 t309 (ji16)).f0.f0)) ∧ w'.cell? ⟨(ad319.add (((ji16)).toNat * 4)).block, (ad319.add (((ji16)).toNat * 4)).off + 1, none⟩ = some (.int .i64 ((rd_T43 t309 (ji16)).f0.f1)) ∧ w'.cell? ⟨(ad319.add (((ji16)).toNat * 4)).block, (ad319.add (((ji16)).toNat * 4)).off + 2, none⟩ = some (.int .i64 ((rd_T43 t309 (ji16)).f0.f2)) ∧ w'.cell? ⟨(ad319.add (((ji16)).toNat * 4)).block, (ad319.add (((ji16)).toNat * 4)).off + 3, none⟩ = some (.int .i64 ((rd_T43 t309 (ji16)).f1)) ∧ w'.cell? (ad319.add ((x4_1).toNat * 4)) = some (.int .i64 ((rd_T43 t309 x4_1).f0.f0)) ∧ w'.cell? ⟨(ad319.add ((x4_1).toNat * 4)).block, (ad319.add ((x4_1).toNat * 4)).off + 1, none⟩ = some (.int .i64 ((rd_T43 t309 x4_1).f0.f1)) ∧ w'.cell? ⟨(ad319.add ((x4_1).toNat * 4)).block, (ad319.add ((x4_1).toNat * 4)).off + 2, none⟩ = some (.int .i64 ((rd_T43 t309 x4_1).f0.f2)) ∧ w'.cell? ⟨(ad319.add ((x4_1).toNat * 4)).block, (ad319.add ((x4_1).toNat * 4)).off + 3, none⟩ = some (.int .i64 ((rd_T43 t309 x4_1).f1))) (ds := []) #[false, false, false, false, false, false, false, false, false, false, false, false, false, false, false] (by kernel_rfl) rfl rfl ⟨(blk_cell BK318.out 0).trans rfl, (blk_cell BK318.out 1).trans rfl, (blk_cell BK318.out 2).trans rfl, hx319_0, hx319_1, hx319_2, hx319_3, hx320_0, hx320_1, hx320_2, hx320_3⟩ (fun hHeld => ?_); refine with_tabW seneschallaw17_PastParts.tab9 seneschallaw17_PastParts.bits9 (fun HT_ HW_ => ?_)
                 generalize wr.drew = w26 at HO_319000 HO_319001 HO_319002 BK318 HB hx319_0 hx319_1 hx319_2 hx319_3 hx320_0 hx320_1 hx320_2 hx320_3 hHeld ⊢
                 refine pure_ (i := 0) (N := some 27) (v := ?_) (a' := ?_) #[true, false, false, false, false, false, false, false, false, false, false, false, false, false, false] rfl rfl (any_of HT_.out (by kernel_rfl)) (fun _ _ _ h => h) (Or.inl ⟨by rfl, ?_⟩) ?_ ?_; rotate_left; intro w'; go_simp; with_reducible rfl; rotate_left; simp only [Act.put, List.setIfInBounds_toArray, List.set_cons_zero, List.set_cons_succ, i64_w, i32_w]; rfl
                 refine pure_ (i := 2) (N := some 29) (v := ?_) (a' := ?_) #[true, false, true, false, false, false, false, false, false, false, false, false, false, false, false] rfl rfl (any_of HT_.out (by kernel_rfl)) (fun _ _ _ h => h) (Or.inl ⟨by rfl, ?_⟩) ?_ ?_; rotate_left; intro w'; go_simp; with_reducible rfl; rotate_left; simp only [Act.put, List.setIfInBounds_toArray, List.set_cons_zero, List.set_cons_succ, i64_w, i32_w]; rfl
                 refine pure_ (i := 3) (N := some 30) (v := ?_) (a' := ?_) #[true, false, true, true, false, false, false, false, false, false, false, false, false, false, false] rfl rfl (any_of HT_.out (by kernel_rfl)) (fun _ _ _ h => h) (Or.inl ⟨by rfl, ?_⟩) ?_ ?_; rotate_left; intro w'; go_simp; with_reducible rfl; rotate_left; simp only [Act.put, List.setIfInBounds_toArray, List.set_cons_zero, List.set_cons_succ, i64_w, i32_w]; rfl
                 refine pure_ (i := 7) (N := some 34) (v := ?_) (a' := ?_) #[true, false, true, true, false, false, false, true, false, false, false, false, false, false, false] rfl rfl (any_of HT_.out (by kernel_rfl)) (fun _ _ _ h => h) (Or.inl ⟨by rfl, ?_⟩) ?_ ?_; rotate_left; intro w'; go_simp; with_reducible rfl; rotate_left; simp only [Act.put, List.setIfInBounds_toArray, List.set_cons_zero, List.set_cons_succ, i64_w, i32_w]; rfl
                 refine pure_ (i := 9) (N := some 36) (v := ?_) (a' := ?_) #[true, false, true, true, false, false, false, true, false, true, false, false, false, false, false] rfl rfl (any_of HT_.out (by kernel_rfl)) (fun _ _ _ h => h) (Or.inl ⟨by rfl, ?_⟩) ?_ ?_; rotate_left; intro w'; go_simp; with_reducible rfl; rotate_left; simp only [Act.put, List.setIfInBounds_toArray, List.set_cons_zero, List.set_cons_succ, i64_w, i32_w]; rfl
                 refine take_ (i := 1) (N := some 28) (v := ?_) (a' := ?_) #[true, true, true, true, false, false, false, true, false, true, false, false, false, false, false] rfl rfl (take_ofW HT_.out HW_.out (by kernel_rfl)) (fun _ _ _ h => h) (Or.inl ⟨by rfl, ?_⟩) hHeld ?_ ?_; rotate_left; rintro w' ⟨s0, s1, s2, s3, s4, s5, s6, s7, s8, s9, s10⟩; go_simp; with_reducible rfl; rotate_left; simp only [Act.put, List.setIfInBounds_toArray, List.set_cons_zero, List.set_cons_succ, i64_w, i32_w]; rfl
                 refine pure_ (i := 4) (N := some 31) (v := ?_) (a' := ?_) #[true, true, true, true, true, false, false, true, false, true, false, false, false, false, false] rfl rfl (any_of HT_.out (by kernel_rfl)) (fun _ _ _ h => h) (Or.inl ⟨by rfl, ?_⟩) ?_ ?_; rotate_left; intro w'; go_simp; with_reducible rfl; rotate_left; simp only [Act.put, List.setIfInBounds_toArray, List.set_cons_zero, List.set_cons_succ, i64_w, i32_w]; rfl
                 refine pure_ (i := 5) (N := some 32) (v := ?_) (a' := ?_) #[true, true, true, true, true, true, false, true, false, true, false, false, false, false, false] rfl rfl (any_of HT_.out (by kernel_rfl)) (fun _ _ _ h => h) (Or.inl ⟨by rfl, ?_⟩) ?_ ?_; rotate_left; intro w'; go_simp; with_reducible rfl; rotate_left; simp only [Act.put, List.setIfInBounds_toArray, List.set_cons_zero, List.set_cons_succ, i64_w, i32_w]; rfl
                 refine take_ (i := 6) (N := some 33) (v := ?_) (a' := ?_) #[true, true, true, true, true, true, true, true, false, true, false, false, false, false, false] rfl rfl (take_ofW HT_.out HW_.out (by kernel_rfl)) (fun _ _ _ h => h) (Or.inl ⟨by rfl, ?_⟩) hHeld ?_ ?_; rotate_left; rintro w' ⟨s0, s1, s2, s3, s4, s5, s6, s7, s8, s9, s10⟩; go_simp; with_reducible rfl; rotate_left; simp only [Act.put, List.setIfInBounds_toArray, List.set_cons_zero, List.set_cons_succ, i64_w, i32_w]; rfl
                 refine take_ (i := 8) (N := some 35) (v := ?_) (a' := ?_) #[true, true, true, true, true, true, true, true, true, true, false, false, false, false, false] rfl rfl (take_ofW HT_.out HW_.out (by kernel_rfl)) (fun _ _ _ h => h) (Or.inl ⟨by rfl, ?_⟩) hHeld ?_ ?_; rotate_left; rintro w' ⟨s0, s1, s2, s3, s4, s5, s6, s7, s8, s9, s10⟩; go_simp; with_reducible rfl; rotate_left; simp only [Act.put, List.setIfInBounds_toArray, List.set_cons_zero, List.set_cons_succ, i64_w, i32_w]; rfl
                 refine pure_ (i := 10) (N := some 37) (v := ?_) (a' := ?_) #[true, true, true, true, true, true, true, true, true, true, true, false, false, false, false] rfl rfl (any_of HT_.out (by kernel_rfl)) (fun _ _ _ h => h) (Or.inl ⟨by rfl, ?_⟩) ?_ ?_; rotate_left; intro w'; go_simp; with_reducible rfl; rotate_left; simp only [Act.put, List.setIfInBounds_toArray, List.set_cons_zero, List.set_cons_succ, i64_w, i32_w]; rfl
                 refine pure_ (i := 11) (N := some 38) (v := ?_) (a' := ?_) #[true, true, true, true, true, true, true, true, true, true, true, true, false, false, false] rfl rfl (any_of HT_.out (by kernel_rfl)) (fun _ _ _ h => h) (Or.inl ⟨by rfl, ?_⟩) ?_ ?_; rotate_left; intro w'; go_simp; with_reducible rfl; rotate_left; simp only [Act.put, List.setIfInBounds_toArray, List.set_cons_zero, List.set_cons_succ, i64_w, i32_w]; rfl
                 refine take_ (i := 12) (N := some 39) (v := ?_) (a' := ?_) #[true, true, true, true, true, true, true, true, true, true, true, true, true, false, false] rfl rfl (take_ofW HT_.out HW_.out (by kernel_rfl)) (fun _ _ _ h => h) (Or.inl ⟨by rfl, ?_⟩) hHeld ?_ ?_; rotate_left; rintro w' ⟨s0, s1, s2, s3, s4, s5, s6, s7, s8, s9, s10⟩; go_simp; with_reducible rfl; rotate_left; simp only [Act.put, List.setIfInBounds_toArray, List.set_cons_zero, List.set_cons_succ, i64_w, i32_w]; rfl
                 refine one_ (i := 13) (N := some 40) #[true, true, true, true, true, true, true, true, true, true, true, true, true, true, false] rfl rfl (one_of HT_.out (by kernel_rfl)) (by decide) (fun K hK => ?_)
                 refine goes_ Try.func17 (by kernel_rfl) rfl #[.agg #[.int .i64 ((rd_T43 t309 (ji16)).f0.f0), .int .i64 ((rd_T43 t309 (ji16)).f0.f1), .int .i64 ((rd_T43 t309 (ji16)).f0.f2)], .agg #[.int .i64 ((rd_T43 t309 x4_1).f0.f0), .int .i64 ((rd_T43 t309 x4_1).f0.f1), .int .i64 ((rd_T43 t309 x4_1).f0.f2)]] (by rfl) rfl rfl (by (try simp only [List.map_toArray, List.map_cons, List.map_nil]); first | done | (simp only [hji16]; rfl) | rfl | (simp only [List.length_drop, List.length_take]; rfl)) ?_
                 with_reducible refine (past_Less.calls k1 ((rd_T43 t309 (ji16)).f0.f0) ((rd_T43 t309 (ji16)).f0.f1) ((rd_T43 t309 (ji16)).f0.f2) ((rd_T43 t309 x4_1).f0.f0) ((rd_T43 t309 x4_1).f0.f1) ((rd_T43 t309 x4_1).f0.f2) false _ A20.out).mono ?_
                 rintro e w27 ⟨rfl, hb⟩
                 have HS3_ := (hb.cell (World.block_lt_of_cell? _ _ (hHeld.2.2.2.1))).trans (hHeld.2.2.2.1)
                 have HS4_ := (hb.cell (World.block_lt_of_cell? _ _ (hHeld.2.2.2.2.1))).trans (hHeld.2.2.2.2.1)
                 have HS5_ := (hb.cell (World.block_lt_of_cell? _ _ (hHeld.2.2.2.2.2.1))).trans (hHeld.2.2.2.2.2.1)
                 have HS6_ := (hb.cell (World.block_lt_of_cell? _ _ (hHeld.2.2.2.2.2.2.1))).trans (hHeld.2.2.2.2.2.2.1)
                 have HS7_ := (hb.cell (World.block_lt_of_cell? _ _ (hHeld.2.2.2.2.2.2.2.1))).trans (hHeld.2.2.2.2.2.2.2.1)
                 have HS8_ := (hb.cell (World.block_lt_of_cell? _ _ (hHeld.2.2.2.2.2.2.2.2.1))).trans (hHeld.2.2.2.2.2.2.2.2.1)
                 have HS9_ := (hb.cell (World.block_lt_of_cell? _ _ (hHeld.2.2.2.2.2.2.2.2.2.1))).trans (hHeld.2.2.2.2.2.2.2.2.2.1)
                 have HS10_ := (hb.cell (World.block_lt_of_cell? _ _ (hHeld.2.2.2.2.2.2.2.2.2.2))).trans (hHeld.2.2.2.2.2.2.2.2.2.2)
                 refine ⟨_, rfl, ?_⟩
                 have n0_ := Aside0.mk (Kd.R_below (by (with_reducible repeat (first | apply Kd.R_alloc | apply Kd.R_drewN | apply Kd.R_drew)); exact HO_319000.out) hb)
                 have n1_ := Aside0.mk (Kd.R_below (by (with_reducible repeat (first | apply Kd.R_alloc | apply Kd.R_drewN | apply Kd.R_drew)); exact HO_319001.out) hb)
                 have n2_ := Aside0.mk (Kd.R_below (by (with_reducible repeat (first | apply Kd.R_alloc | apply Kd.R_drewN | apply Kd.R_drew)); exact HO_319002.out) hb)
                 have n3_ := Aside0.mk (blk_below (g := gb318) (o := .cells #[.slice (some ad319) t309.length co11, .slice Ao13 t312.length co13, .slice Ao14 t315.length co14] 37 (0, 0)) (by (with_reducible repeat (first | refine blk_drewN ?_ _ | refine blk_drew ?_ | refine blk_alloc ?_ _)); exact BK318.out) hb)
                 have n4_ := Aside0.mk (below_step (by repeat (first | (with_reducible first | exact HB.out | apply below_alloc | apply pw_below_drewN | apply below_drew1 | refine below_set ?_ GE318.out) | exact HB.out)) hb)
                 clear HO_319000
                 clear HO_319001
                 clear HO_319002
                 clear BK318
                 clear HB
                 have HO_319000 := n0_
                 have HO_319001 := n1_
                 have HO_319002 := n2_
                 have BK318 := n3_
                 have HB := n4_
                 clear n0_ n1_ n2_ n3_ n4_
                 (try clear hb)
                 (try clear hb2)
                 (try clear hk)
                 (try clear hi)
                 refine hK.out _ _ ⟨(blk_cell BK318.out 0).trans rfl, (blk_cell BK318.out 1).trans rfl, (blk_cell BK318.out 2).trans rfl, HS3_, HS4_, HS5_, HS6_, HS7_, HS8_, HS9_, HS10_⟩ (fun hHeld => ?_)
                 clear hK K
                 refine norm_ (a' := ?_) ?_ ?_
                 rotate_left
                 · show Act.put _ (some 40) _ = _
                   simp only [Act.put, List.setIfInBounds_toArray, List.set_cons_zero, List.set_cons_succ, i64_w, i32_w]
                   rfl
                 refine pure_ (i := 14) (N := some 41) (v := ?_) (a' := ?_) #[true, true, true, true, true, true, true, true, true, true, true, true, true, true, true] rfl rfl (any_of HT_.out (by kernel_rfl)) (fun _ _ _ h => h) (Or.inl ⟨by rfl, ?_⟩) ?_ ?_; rotate_left; intro w'; go_simp; with_reducible rfl; rotate_left; simp only [Act.put, List.setIfInBounds_toArray, List.set_cons_zero, List.set_cons_succ, i64_w, i32_w]; rfl
                 refine done_ (done_of HT_.out (by kernel_rfl)) ?_
                 try go_wp2
                 go_ret
                 exact ⟨by first | rfl | (simp [errW_none, errW_some] <;> rfl) | (simp only [← hji16]; first | rfl | (simp [errW_none, errW_some] <;> rfl)) | (simp [*, errW_none, errW_some] <;> rfl), by repeat (first | (with_reducible first | exact HB.out | apply below_alloc | apply pw_below_drewN | apply below_drew1 | refine below_set ?_ GE318.out) | exact HB.out)⟩
             · rw [if_neg c19] at H
               exact absurd H (by simp)
           · rw [if_neg c18] at H
             exact absurd H (by simp)
         · rw [if_neg c17] at H
           exact absurd H (by simp)
       · rw [if_neg c15] at H
         have c15b0 : decide (x4_1 < (t309.length : Int)) = false := decide_eq_false c15
         clear c15
         have H' := Aside0.mk H
         clear H
         have hcz28_0 : wr.cell? ⟨gb318, 0, none⟩ = some (.slice Ao11 t309.length co11) := (blk_cell BK318.out 0).trans rfl
         have hcz28_1 : wr.cell? ⟨gb318, 1, none⟩ = some (.slice Ao13 t312.length co13) := (blk_cell BK318.out 1).trans rfl
         have hcz28_2 : wr.cell? ⟨gb318, 2, none⟩ = some (.slice Ao14 t315.length co14) := (blk_cell BK318.out 2).trans rfl
         have hfz28_0 := blk_frozen BK318.out 0
         have hfz28_1 := blk_frozen BK318.out 1
         have hfz28_2 := blk_frozen BK318.out 2
         go_wp2
         go_loopg [5] k1 (fun kq v5 w' => ∃ (x5_2 : Int), v5 = .int .i64 x5_2 ∧ Aside0 (seneschallaw17_PastParts.l1 kq l0 x5_2 t309 t312 t315 = some r) ∧ Aside0 (kq ≤ k1) ∧ Aside0 (Kd.R k43 43 w' w.heap.size (fun _ => True) (.slice Ao11 t309.length co11) t309) ∧ Aside0 (Kd.R k24 24 w' w.heap.size (fun _ => True) (.slice Ao13 t312.length co13) t312) ∧ Aside0 (Kd.R k45 45 w' w.heap.size (fun _ => True) (.slice Ao14 t315.length co14) t315) ∧ Aside0 (w'.heap[gb318]? = some (.cells #[(.slice Ao11 t309.length co11), (.slice Ao13 t312.length co13), (.slice Ao14 t315.length co14)] 37 (0, 0))) ∧ Aside0 (Below w.heap.size w w'))
         case atStart => exact ⟨(1), (by first | rfl | (simp; done) | (simp [*]; done)), H', ⟨Nat.le_refl _⟩, ⟨by (with_reducible repeat (first | apply Kd.R_alloc | apply Kd.R_drewN | apply Kd.R_drew)); exact HO_319000.out⟩, ⟨by (with_reducible repeat (first | apply Kd.R_alloc | apply Kd.R_drewN | apply Kd.R_drew)); exact HO_319001.out⟩, ⟨by (with_reducible repeat (first | apply Kd.R_alloc | apply Kd.R_drewN | apply Kd.R_drew)); exact HO_319002.out⟩, ⟨by (with_reducible repeat (first | refine blk_drewN ?_ _ | refine blk_drew ?_ | refine blk_alloc ?_ _)); exact BK318.out⟩, ⟨by repeat (first | (with_reducible first | exact HB.out | apply below_alloc | apply pw_below_drewN | apply below_drew1 | refine below_set ?_ GE318.out) | exact HB.out)⟩⟩
         case round =>
          clear H'
          try clear c1
          try clear c2
          try clear p2
          try clear c3
          try clear p3
          try clear q3
          try clear hx3
          try clear c4
          try clear c5
          try clear p6
          try clear c8
          try clear c9
          try clear c13
          try clear c15
          try clear c15b0
          try clear c17
          try clear c17b0
          try clear c18
          try clear c18b0
          try clear c19
          try clear c19b0
          try clear c21
          try clear hcz12_0
          try clear hcz12_1
          try clear hcz12_2
          try clear hcz22_0
          try clear hcz22_1
          try clear hcz22_2
          try clear hcz25_0
          try clear hcz25_1
          try clear hcz25_2
          try clear hcz28_0
          try clear hcz28_1
          try clear hcz28_2
          try clear hfz12_0
          try clear hfz12_1
          try clear hfz12_2
          try clear hfz22_0
          try clear hfz22_1
          try clear hfz22_2
          try clear hfz25_0
          try clear hfz25_1
          try clear hfz25_2
          try clear hfz28_0
          try clear hfz28_1
          try clear hfz28_2
          try clear hx319_0
          try clear hx319_1
          try clear hx319_2
          try clear hx319_3
          try clear hx320_0
          try clear hx320_1
          try clear hx320_2
          try clear hx320_3
          try clear p2
          try clear p319
          try clear p320
          try clear q319
          try clear q320
          obtain ⟨x5_2, rfl, HA, HK2, HO_319000, HO_319001, HO_319002, BK318, HB⟩ := hrel
          cases gk with
          | zero => exact absurd HA.out (by simp [seneschallaw17_PastParts.l1])
          | succ k2 =>
           have H := HA.out
           clear HA
           simp only [seneschallaw17_PastParts.l1] at H
           by_cases c29 : x5_2 < (t315.length : Int)
           · rw [if_pos c29] at H
             have c29b0 : decide (x5_2 < (t315.length : Int)) = true := decide_eq_true c29
             clear c29
             obtain ⟨ji30, hji30⟩ : ∃ j_ : Int, (wrap64 (x5_2 - 1)) = j_ := ⟨_, rfl⟩
             replace H : (if 0 ≤ (ji30) then (if (ji30) < (t315.length : Int) then (if 0 ≤ x5_2 then (if ((rd_T45 t315 (ji30)).f0) ≥ ((rd_T45 t315 x5_2).f0) then (some false) else (seneschallaw17_PastParts.l1 k2 l0 (wrap64 (x5_2 + 1)) t309 t312 t315)) else (none)) else (none)) else (none)) = some r := by first | (rw [hji30] at H; exact H) | (simp only [hji30] at H ⊢; exact H)
             have hji30w : (IntKind.i64.wrap (x5_2 - 1)) = ji30 := (i64_w _).trans hji30
             by_cases c31 : 0 ≤ (ji30)
             · rw [if_pos c31] at H
               have c31b0 : decide (0 ≤ (ji30)) = true := decide_eq_true c31
               clear c31
               by_cases c32 : (ji30) < (t315.length : Int)
               · rw [if_pos c32] at H
                 have c32b0 : decide ((ji30) < (t315.length : Int)) = true := decide_eq_true c32
                 clear c32
                 by_cases c33 : 0 ≤ x5_2
                 · rw [if_pos c33] at H
                   have c33b0 : decide (0 ≤ x5_2) = true := decide_eq_true c33
                   clear c33
                   by_cases c34 : ((rd_T45 t315 (ji30)).f0) ≥ ((rd_T45 t315 x5_2).f0)
                   · rw [if_pos c34] at H
                     have c34b0 : decide (((rd_T45 t315 x5_2).f0) ≤ ((rd_T45 t315 (ji30)).f0)) = true := decide_eq_true c34
                     clear c34
                     obtain rfl := Option.some.inj H
                     have hcz35_0 : wr.cell? ⟨gb318, 0, none⟩ = some (.slice Ao11 t309.length co11) := (blk_cell BK318.out 0).trans rfl
                     have hcz35_1 : wr.cell? ⟨gb318, 1, none⟩ = some (.slice Ao13 t312.length co13) := (blk_cell BK318.out 1).trans rfl
                     have hcz35_2 : wr.cell? ⟨gb318, 2, none⟩ = some (.slice Ao14 t315.length co14) := (blk_cell BK318.out 2).trans rfl
                     have hfz35_0 := blk_frozen BK318.out 0
                     have hfz35_1 := blk_frozen BK318.out 1
                     have hfz35_2 := blk_frozen BK318.out 2
                     try go_wp2
                     have n0_ := Aside0.mk (Kd.R_drew HO_319000.out)
                     have n1_ := Aside0.mk (Kd.R_drew HO_319001.out)
                     have n2_ := Aside0.mk (Kd.R_drew HO_319002.out)
                     have n3_ := Aside0.mk (blk_drew BK318.out)
                     have n4_ := Aside0.mk (below_drew1 HB.out)
                     clear HO_319000
                     clear HO_319001
                     clear HO_319002
                     clear BK318
                     clear HB
                     have HO_319000 := n0_
                     have HO_319001 := n1_
                     have HO_319002 := n2_
                     have BK318 := n3_
                     have HB := n4_
                     clear n0_ n1_ n2_ n3_ n4_
                     have p322 : 0 ≤ ((ji30) : Int) := of_decide_eq_true (by first | (with_reducible assumption) | assumption)
                     have q322 : (ji30) < (t315.length : Int) := of_decide_eq_true (by first | (with_reducible assumption) | assumption)
                     obtain ⟨ad322, e322, hx322_0, hx322_1⟩ := at_T45 (Kd.R_reads' HO_319002.out).2.2 (ji30) p322 q322
                     cases e322
                     replace p322 := eq_true p322
                     replace q322 := eq_true q322
                     have p323 : 0 ≤ (x5_2 : Int) := of_decide_eq_true (by first | (with_reducible assumption) | assumption)
                     have q323 : x5_2 < (t315.length : Int) := of_decide_eq_true (by first | (with_reducible assumption) | assumption)
                     obtain ⟨ad323, e323, hx323_0, hx323_1⟩ := at_T45 (Kd.R_reads' HO_319002.out).2.2 x5_2 p323 q323
                     obtain rfl : ad322 = ad323 := (by injection e323)
                     replace p323 := eq_true p323
                     replace q323 := eq_true q323
                     refine start_ (n := 14) (S := fun w' => w'.cell? ⟨gb318, 0, none⟩ = some (.slice Ao11 t309.length co11) ∧ w'.cell? ⟨gb318, 1, none⟩ = some (.slice Ao13 t312.length co13) ∧ w'.cell? ⟨gb318, 2, none⟩ = some (.slice (some ad322) t315.length co14) ∧ w'.cell? (ad322.add (((ji30)).toNat * 2)) = some (.int .i64 ((rd_T45 t315 (ji30)).f0)) ∧ w'.cell? ⟨(ad322.add (((ji30)).toNat * 2)).block, (ad322.add (((ji30)).toNat * 2)).off + 1, none⟩ = some (.int .i64 ((rd_T45 t315 (ji30)).f1)) ∧ w'.cell? (ad322.add ((x5_2).toNat * 2)) = some (.int .i64 ((rd_T45 t315 x5_2).f0)) ∧ w'.cell? ⟨(ad322.add ((x5_2).toNat * 2)).block, (ad322.add ((x5_2).toNat * 2)).off + 1, none⟩ = some (.int .i64 ((rd_T45 t315 x5_2).f1))) (ds := []) #[false, false, false, false, false, false, false, false, false, false, false, false, false, false] (by kernel_rfl) rfl rfl ⟨(blk_cell BK318.out 0).trans rfl, (blk_cell BK318.out 1).trans rfl, (blk_cell BK318.out 2).trans rfl, hx322_0, hx322_1, hx323_0, hx323_1⟩ (fun hHeld => ?_); refine with_tabW seneschallaw17_PastParts.tab14 seneschallaw17_PastParts.bits14 (fun HT_ HW_ => ?_)
                     generalize wr.drew = w36 at HO_319000 HO_319001 HO_319002 BK318 HB hx322_0 hx322_1 hx323_0 hx323_1 hHeld ⊢
                     refine pure_ (i := 0) (N := some 49) (v := ?_) (a' := ?_) #[true, false, false, false, false, false, false, false, false, false, false, false, false, false] rfl rfl (any_of HT_.out (by kernel_rfl)) (fun _ _ _ h => h) (Or.inl ⟨by rfl, ?_⟩) ?_ ?_; rotate_left; intro w'; go_simp; with_reducible rfl; rotate_left; simp only [Act.put, List.setIfInBounds_toArray, List.set_cons_zero, List.set_cons_succ, i64_w, i32_w]; rfl
                     refine pure_ (i := 2) (N := some 51) (v := ?_) (a' := ?_) #[true, false, true, false, false, false, false, false, false, false, false, false, false, false] rfl rfl (any_of HT_.out (by kernel_rfl)) (fun _ _ _ h => h) (Or.inl ⟨by rfl, ?_⟩) ?_ ?_; rotate_left; intro w'; go_simp; with_reducible rfl; rotate_left; simp only [Act.put, List.setIfInBounds_toArray, List.set_cons_zero, List.set_cons_succ, i64_w, i32_w]; rfl
                     refine pure_ (i := 3) (N := some 52) (v := ?_) (a' := ?_) #[true, false, true, true, false, false, false, false, false, false, false, false, false, false] rfl rfl (any_of HT_.out (by kernel_rfl)) (fun _ _ _ h => h) (Or.inl ⟨by rfl, ?_⟩) ?_ ?_; rotate_left; intro w'; go_simp; with_reducible rfl; rotate_left; simp only [Act.put, List.setIfInBounds_toArray, List.set_cons_zero, List.set_cons_succ, i64_w, i32_w]; rfl
                     refine pure_ (i := 7) (N := some 56) (v := ?_) (a' := ?_) #[true, false, true, true, false, false, false, true, false, false, false, false, false, false] rfl rfl (any_of HT_.out (by kernel_rfl)) (fun _ _ _ h => h) (Or.inl ⟨by rfl, ?_⟩) ?_ ?_; rotate_left; intro w'; go_simp; with_reducible rfl; rotate_left; simp only [Act.put, List.setIfInBounds_toArray, List.set_cons_zero, List.set_cons_succ, i64_w, i32_w]; rfl
                     refine pure_ (i := 9) (N := some 58) (v := ?_) (a' := ?_) #[true, false, true, true, false, false, false, true, false, true, false, false, false, false] rfl rfl (any_of HT_.out (by kernel_rfl)) (fun _ _ _ h => h) (Or.inl ⟨by rfl, ?_⟩) ?_ ?_; rotate_left; intro w'; go_simp; with_reducible rfl; rotate_left; simp only [Act.put, List.setIfInBounds_toArray, List.set_cons_zero, List.set_cons_succ, i64_w, i32_w]; rfl
                     refine take_ (i := 1) (N := some 50) (v := ?_) (a' := ?_) #[true, true, true, true, false, false, false, true, false, true, false, false, false, false] rfl rfl (take_ofW HT_.out HW_.out (by kernel_rfl)) (fun _ _ _ h => h) (Or.inl ⟨by rfl, ?_⟩) hHeld ?_ ?_; rotate_left; rintro w' ⟨s0, s1, s2, s3, s4, s5, s6⟩; go_simp; with_reducible rfl; rotate_left; simp only [Act.put, List.setIfInBounds_toArray, List.set_cons_zero, List.set_cons_succ, i64_w, i32_w]; rfl
                     refine pure_ (i := 4) (N := some 53) (v := ?_) (a' := ?_) #[true, true, true, true, true, false, false, true, false, true, false, false, false, false] rfl rfl (any_of HT_.out (by kernel_rfl)) (fun _ _ _ h => h) (Or.inl ⟨by rfl, ?_⟩) ?_ ?_; rotate_left; intro w'; go_simp; with_reducible rfl; rotate_left; simp only [Act.put, List.setIfInBounds_toArray, List.set_cons_zero, List.set_cons_succ, i64_w, i32_w]; rfl
                     refine pure_ (i := 5) (N := some 54) (v := ?_) (a' := ?_) #[true, true, true, true, true, true, false, true, false, true, false, false, false, false] rfl rfl (any_of HT_.out (by kernel_rfl)) (fun _ _ _ h => h) (Or.inl ⟨by rfl, ?_⟩) ?_ ?_; rotate_left; intro w'; go_simp; with_reducible rfl; rotate_left; simp only [Act.put, List.setIfInBounds_toArray, List.set_cons_zero, List.set_cons_succ, i64_w, i32_w]; rfl
                     refine take_ (i := 6) (N := some 55) (v := ?_) (a' := ?_) #[true, true, true, true, true, true, true, true, false, true, false, false, false, false] rfl rfl (take_ofW HT_.out HW_.out (by kernel_rfl)) (fun _ _ _ h => h) (Or.inl ⟨by rfl, ?_⟩) hHeld ?_ ?_; rotate_left; rintro w' ⟨s0, s1, s2, s3, s4, s5, s6⟩; go_simp; with_reducible rfl; rotate_left; simp only [Act.put, List.setIfInBounds_toArray, List.set_cons_zero, List.set_cons_succ, i64_w, i32_w]; rfl
                     refine take_ (i := 8) (N := some 57) (v := ?_) (a' := ?_) #[true, true, true, true, true, true, true, true, true, true, false, false, false, false] rfl rfl (take_ofW HT_.out HW_.out (by kernel_rfl)) (fun _ _ _ h => h) (Or.inl ⟨by rfl, ?_⟩) hHeld ?_ ?_; rotate_left; rintro w' ⟨s0, s1, s2, s3, s4, s5, s6⟩; go_simp; with_reducible rfl; rotate_left; simp only [Act.put, List.setIfInBounds_toArray, List.set_cons_zero, List.set_cons_succ, i64_w, i32_w]; rfl
                     refine pure_ (i := 10) (N := some 59) (v := ?_) (a' := ?_) #[true, true, true, true, true, true, true, true, true, true, true, false, false, false] rfl rfl (any_of HT_.out (by kernel_rfl)) (fun _ _ _ h => h) (Or.inl ⟨by rfl, ?_⟩) ?_ ?_; rotate_left; intro w'; go_simp; with_reducible rfl; rotate_left; simp only [Act.put, List.setIfInBounds_toArray, List.set_cons_zero, List.set_cons_succ, i64_w, i32_w]; rfl
                     refine pure_ (i := 11) (N := some 60) (v := ?_) (a' := ?_) #[true, true, true, true, true, true, true, true, true, true, true, true, false, false] rfl rfl (any_of HT_.out (by kernel_rfl)) (fun _ _ _ h => h) (Or.inl ⟨by rfl, ?_⟩) ?_ ?_; rotate_left; intro w'; go_simp; with_reducible rfl; rotate_left; simp only [Act.put, List.setIfInBounds_toArray, List.set_cons_zero, List.set_cons_succ, i64_w, i32_w]; rfl
                     refine take_ (i := 12) (N := some 61) (v := ?_) (a' := ?_) #[true, true, true, true, true, true, true, true, true, true, true, true, true, false] rfl rfl (take_ofW HT_.out HW_.out (by kernel_rfl)) (fun _ _ _ h => h) (Or.inl ⟨by rfl, ?_⟩) hHeld ?_ ?_; rotate_left; rintro w' ⟨s0, s1, s2, s3, s4, s5, s6⟩; go_simp; with_reducible rfl; rotate_left; simp only [Act.put, List.setIfInBounds_toArray, List.set_cons_zero, List.set_cons_succ, i64_w, i32_w]; rfl
                     refine pure_ (i := 13) (N := some 62) (v := ?_) (a' := ?_) #[true, true, true, true, true, true, true, true, true, true, true, true, true, true] rfl rfl (any_of HT_.out (by kernel_rfl)) (fun _ _ _ h => h) (Or.inl ⟨by rfl, ?_⟩) ?_ ?_; rotate_left; intro w'; go_simp; with_reducible rfl; rotate_left; simp only [Act.put, List.setIfInBounds_toArray, List.set_cons_zero, List.set_cons_succ, i64_w, i32_w]; rfl
                     refine done_ (done_of HT_.out (by kernel_rfl)) ?_
                     try go_wp2
                     go_ret
                     exact ⟨by first | rfl | (simp [errW_none, errW_some] <;> rfl) | (simp only [← hji30]; first | rfl | (simp [errW_none, errW_some] <;> rfl)) | (simp [*, errW_none, errW_some] <;> rfl), by repeat (first | (with_reducible first | exact HB.out | apply below_alloc | apply pw_below_drewN | apply below_drew1 | refine below_set ?_ GE318.out) | exact HB.out)⟩
                   · rw [if_neg c34] at H
                     have c34b0 : decide (((rd_T45 t315 x5_2).f0) ≤ ((rd_T45 t315 (ji30)).f0)) = false := decide_eq_false c34
                     clear c34
                     have H' := Aside0.mk H
                     clear H
                     have hcz37_0 : wr.cell? ⟨gb318, 0, none⟩ = some (.slice Ao11 t309.length co11) := (blk_cell BK318.out 0).trans rfl
                     have hcz37_1 : wr.cell? ⟨gb318, 1, none⟩ = some (.slice Ao13 t312.length co13) := (blk_cell BK318.out 1).trans rfl
                     have hcz37_2 : wr.cell? ⟨gb318, 2, none⟩ = some (.slice Ao14 t315.length co14) := (blk_cell BK318.out 2).trans rfl
                     have hfz37_0 := blk_frozen BK318.out 0
                     have hfz37_1 := blk_frozen BK318.out 1
                     have hfz37_2 := blk_frozen BK318.out 2
                     try go_wp2
                     have n0_ := Aside0.mk (Kd.R_drew HO_319000.out)
                     have n1_ := Aside0.mk (Kd.R_drew HO_319001.out)
                     have n2_ := Aside0.mk (Kd.R_drew HO_319002.out)
                     have n3_ := Aside0.mk (blk_drew BK318.out)
                     have n4_ := Aside0.mk (below_drew1 HB.out)
                     clear HO_319000
                     clear HO_319001
                     clear HO_319002
                     clear BK318
                     clear HB
                     have HO_319000 := n0_
                     have HO_319001 := n1_
                     have HO_319002 := n2_
                     have BK318 := n3_
                     have HB := n4_
                     clear n0_ n1_ n2_ n3_ n4_
                     have p322 : 0 ≤ ((ji30) : Int) := of_decide_eq_true (by first | (with_reducible assumption) | assumption)
                     have q322 : (ji30) < (t315.length : Int) := of_decide_eq_true (by first | (with_reducible assumption) | assumption)
                     obtain ⟨ad322, e322, hx322_0, hx322_1⟩ := at_T45 (Kd.R_reads' HO_319002.out).2.2 (ji30) p322 q322
                     cases e322
                     replace p322 := eq_true p322
                     replace q322 := eq_true q322
                     have p323 : 0 ≤ (x5_2 : Int) := of_decide_eq_true (by first | (with_reducible assumption) | assumption)
                     have q323 : x5_2 < (t315.length : Int) := of_decide_eq_true (by first | (with_reducible assumption) | assumption)
                     obtain ⟨ad323, e323, hx323_0, hx323_1⟩ := at_T45 (Kd.R_reads' HO_319002.out).2.2 x5_2 p323 q323
                     obtain rfl : ad322 = ad323 := (by injection e323)
                     replace p323 := eq_true p323
                     replace q323 := eq_true q323
                     refine start_ (n := 14) (S := fun w' => w'.cell? ⟨gb318, 0, none⟩ = some (.slice Ao11 t309.length co11) ∧ w'.cell? ⟨gb318, 1, none⟩ = some (.slice Ao13 t312.length co13) ∧ w'.cell? ⟨gb318, 2, none⟩ = some (.slice (some ad322) t315.length co14) ∧ w'.cell? (ad322.add (((ji30)).toNat * 2)) = some (.int .i64 ((rd_T45 t315 (ji30)).f0)) ∧ w'.cell? ⟨(ad322.add (((ji30)).toNat * 2)).block, (ad322.add (((ji30)).toNat * 2)).off + 1, none⟩ = some (.int .i64 ((rd_T45 t315 (ji30)).f1)) ∧ w'.cell? (ad322.add ((x5_2).toNat * 2)) = some (.int .i64 ((rd_T45 t315 x5_2).f0)) ∧ w'.cell? ⟨(ad322.add ((x5_2).toNat * 2)).block, (ad322.add ((x5_2).toNat * 2)).off + 1, none⟩ = some (.int .i64 ((rd_T45 t315 x5_2).f1))) (ds := []) #[false, false, false, false, false, false, false, false, false, false, false, false, false, false] (by kernel_rfl) rfl rfl ⟨(blk_cell BK318.out 0).trans rfl, (blk_cell BK318.out 1).trans rfl, (blk_cell BK318.out 2).trans rfl, hx322_0, hx322_1, hx323_0, hx323_1⟩ (fun hHeld => ?_); refine with_tabW seneschallaw17_PastParts.tab14 seneschallaw17_PastParts.bits14 (fun HT_ HW_ => ?_)
                     generalize wr.drew = w38 at HO_319000 HO_319001 HO_319002 BK318 HB hx322_0 hx322_1 hx323_0 hx323_1 hHeld ⊢
                     refine pure_ (i := 0) (N := some 49) (v := ?_) (a' := ?_) #[true, false, false, false, false, false, false, false, false, false, false, false, false, false] rfl rfl (any_of HT_.out (by kernel_rfl)) (fun _ _ _ h => h) (Or.inl ⟨by rfl, ?_⟩) ?_ ?_; rotate_left; intro w'; go_simp; with_reducible rfl; rotate_left; simp only [Act.put, List.setIfInBounds_toArray, List.set_cons_zero, List.set_cons_succ, i64_w, i32_w]; rfl
                     refine pure_ (i := 2) (N := some 51) (v := ?_) (a' := ?_) #[true, false, true, false, false, false, false, false, false, false, false, false, false, false] rfl rfl (any_of HT_.out (by kernel_rfl)) (fun _ _ _ h => h) (Or.inl ⟨by rfl, ?_⟩) ?_ ?_; rotate_left; intro w'; go_simp; with_reducible rfl; rotate_left; simp only [Act.put, List.setIfInBounds_toArray, List.set_cons_zero, List.set_cons_succ, i64_w, i32_w]; rfl
                     refine pure_ (i := 3) (N := some 52) (v := ?_) (a' := ?_) #[true, false, true, true, false, false, false, false, false, false, false, false, false, false] rfl rfl (any_of HT_.out (by kernel_rfl)) (fun _ _ _ h => h) (Or.inl ⟨by rfl, ?_⟩) ?_ ?_; rotate_left; intro w'; go_simp; with_reducible rfl; rotate_left; simp only [Act.put, List.setIfInBounds_toArray, List.set_cons_zero, List.set_cons_succ, i64_w, i32_w]; rfl
                     refine pure_ (i := 7) (N := some 56) (v := ?_) (a' := ?_) #[true, false, true, true, false, false, false, true, false, false, false, false, false, false] rfl rfl (any_of HT_.out (by kernel_rfl)) (fun _ _ _ h => h) (Or.inl ⟨by rfl, ?_⟩) ?_ ?_; rotate_left; intro w'; go_simp; with_reducible rfl; rotate_left; simp only [Act.put, List.setIfInBounds_toArray, List.set_cons_zero, List.set_cons_succ, i64_w, i32_w]; rfl
                     refine pure_ (i := 9) (N := some 58) (v := ?_) (a' := ?_) #[true, false, true, true, false, false, false, true, false, true, false, false, false, false] rfl rfl (any_of HT_.out (by kernel_rfl)) (fun _ _ _ h => h) (Or.inl ⟨by rfl, ?_⟩) ?_ ?_; rotate_left; intro w'; go_simp; with_reducible rfl; rotate_left; simp only [Act.put, List.setIfInBounds_toArray, List.set_cons_zero, List.set_cons_succ, i64_w, i32_w]; rfl
                     refine take_ (i := 1) (N := some 50) (v := ?_) (a' := ?_) #[true, true, true, true, false, false, false, true, false, true, false, false, false, false] rfl rfl (take_ofW HT_.out HW_.out (by kernel_rfl)) (fun _ _ _ h => h) (Or.inl ⟨by rfl, ?_⟩) hHeld ?_ ?_; rotate_left; rintro w' ⟨s0, s1, s2, s3, s4, s5, s6⟩; go_simp; with_reducible rfl; rotate_left; simp only [Act.put, List.setIfInBounds_toArray, List.set_cons_zero, List.set_cons_succ, i64_w, i32_w]; rfl
                     refine pure_ (i := 4) (N := some 53) (v := ?_) (a' := ?_) #[true, true, true, true, true, false, false, true, false, true, false, false, false, false] rfl rfl (any_of HT_.out (by kernel_rfl)) (fun _ _ _ h => h) (Or.inl ⟨by rfl, ?_⟩) ?_ ?_; rotate_left; intro w'; go_simp; with_reducible rfl; rotate_left; simp only [Act.put, List.setIfInBounds_toArray, List.set_cons_zero, List.set_cons_succ, i64_w, i32_w]; rfl
                     refine pure_ (i := 5) (N := some 54) (v := ?_) (a' := ?_) #[true, true, true, true, true, true, false, true, false, true, false, false, false, false] rfl rfl (any_of HT_.out (by kernel_rfl)) (fun _ _ _ h => h) (Or.inl ⟨by rfl, ?_⟩) ?_ ?_; rotate_left; intro w'; go_simp; with_reducible rfl; rotate_left; simp only [Act.put, List.setIfInBounds_toArray, List.set_cons_zero, List.set_cons_succ, i64_w, i32_w]; rfl
                     refine take_ (i := 6) (N := some 55) (v := ?_) (a' := ?_) #[true, true, true, true, true, true, true, true, false, true, false, false, false, false] rfl rfl (take_ofW HT_.out HW_.out (by kernel_rfl)) (fun _ _ _ h => h) (Or.inl ⟨by rfl, ?_⟩) hHeld ?_ ?_; rotate_left; rintro w' ⟨s0, s1, s2, s3, s4, s5, s6⟩; go_simp; with_reducible rfl; rotate_left; simp only [Act.put, List.setIfInBounds_toArray, List.set_cons_zero, List.set_cons_succ, i64_w, i32_w]; rfl
                     refine take_ (i := 8) (N := some 57) (v := ?_) (a' := ?_) #[true, true, true, true, true, true, true, true, true, true, false, false, false, false] rfl rfl (take_ofW HT_.out HW_.out (by kernel_rfl)) (fun _ _ _ h => h) (Or.inl ⟨by rfl, ?_⟩) hHeld ?_ ?_; rotate_left; rintro w' ⟨s0, s1, s2, s3, s4, s5, s6⟩; go_simp; with_reducible rfl; rotate_left; simp only [Act.put, List.setIfInBounds_toArray, List.set_cons_zero, List.set_cons_succ, i64_w, i32_w]; rfl
                     refine pure_ (i := 10) (N := some 59) (v := ?_) (a' := ?_) #[true, true, true, true, true, true, true, true, true, true, true, false, false, false] rfl rfl (any_of HT_.out (by kernel_rfl)) (fun _ _ _ h => h) (Or.inl ⟨by rfl, ?_⟩) ?_ ?_; rotate_left; intro w'; go_simp; with_reducible rfl; rotate_left; simp only [Act.put, List.setIfInBounds_toArray, List.set_cons_zero, List.set_cons_succ, i64_w, i32_w]; rfl
                     refine pure_ (i := 11) (N := some 60) (v := ?_) (a' := ?_) #[true, true, true, true, true, true, true, true, true, true, true, true, false, false] rfl rfl (any_of HT_.out (by kernel_rfl)) (fun _ _ _ h => h) (Or.inl ⟨by rfl, ?_⟩) ?_ ?_; rotate_left; intro w'; go_simp; with_reducible rfl; rotate_left; simp only [Act.put, List.setIfInBounds_toArray, List.set_cons_zero, List.set_cons_succ, i64_w, i32_w]; rfl
                     refine take_ (i := 12) (N := some 61) (v := ?_) (a' := ?_) #[true, true, true, true, true, true, true, true, true, true, true, true, true, false] rfl rfl (take_ofW HT_.out HW_.out (by kernel_rfl)) (fun _ _ _ h => h) (Or.inl ⟨by rfl, ?_⟩) hHeld ?_ ?_; rotate_left; rintro w' ⟨s0, s1, s2, s3, s4, s5, s6⟩; go_simp; with_reducible rfl; rotate_left; simp only [Act.put, List.setIfInBounds_toArray, List.set_cons_zero, List.set_cons_succ, i64_w, i32_w]; rfl
                     refine pure_ (i := 13) (N := some 62) (v := ?_) (a' := ?_) #[true, true, true, true, true, true, true, true, true, true, true, true, true, true] rfl rfl (any_of HT_.out (by kernel_rfl)) (fun _ _ _ h => h) (Or.inl ⟨by rfl, ?_⟩) ?_ ?_; rotate_left; intro w'; go_simp; with_reducible rfl; rotate_left; simp only [Act.put, List.setIfInBounds_toArray, List.set_cons_zero, List.set_cons_succ, i64_w, i32_w]; rfl
                     refine done_ (done_of HT_.out (by kernel_rfl)) ?_
                     try go_wp2
                     go_roundg k2
                     case measure => have := HK1.out; have := HK2.out; omega
                     case rel => exact ⟨(wrap64 (x5_2 + 1)), (by first | rfl | (simp; done) | (simp [*]; done)), H', ⟨by have := HK1.out; have := HK2.out; omega⟩, ⟨by (with_reducible repeat (first | apply Kd.R_alloc | apply Kd.R_drewN | apply Kd.R_drew)); exact HO_319000.out⟩, ⟨by (with_reducible repeat (first | apply Kd.R_alloc | apply Kd.R_drewN | apply Kd.R_drew)); exact HO_319001.out⟩, ⟨by (with_reducible repeat (first | apply Kd.R_alloc | apply Kd.R_drewN | apply Kd.R_drew)); exact HO_319002.out⟩, ⟨by (with_reducible repeat (first | refine blk_drewN ?_ _ | refine blk_drew ?_ | refine blk_alloc ?_ _)); exact BK318.out⟩, ⟨by repeat (first | (with_reducible first | exact HB.out | apply below_alloc | apply pw_below_drewN | apply below_drew1 | refine below_set ?_ GE318.out) | exact HB.out)⟩⟩
                 · rw [if_neg c33] at H
                   exact absurd H (by simp)
               · rw [if_neg c32] at H
                 exact absurd H (by simp)
             · rw [if_neg c31] at H
               exact absurd H (by simp)
           · rw [if_neg c29] at H
             have c29b0 : decide (x5_2 < (t315.length : Int)) = false := decide_eq_false c29
             clear c29
             have H' := Aside0.mk H
             clear H
             have hcz39_0 : wr.cell? ⟨gb318, 0, none⟩ = some (.slice Ao11 t309.length co11) := (blk_cell BK318.out 0).trans rfl
             have hcz39_1 : wr.cell? ⟨gb318, 1, none⟩ = some (.slice Ao13 t312.length co13) := (blk_cell BK318.out 1).trans rfl
             have hcz39_2 : wr.cell? ⟨gb318, 2, none⟩ = some (.slice Ao14 t315.length co14) := (blk_cell BK318.out 2).trans rfl
             have hfz39_0 := blk_frozen BK318.out 0
             have hfz39_1 := blk_frozen BK318.out 1
             have hfz39_2 := blk_frozen BK318.out 2
             go_wp2
             go_loopg [6] k2 (fun kq v6 w' => ∃ (x6_3 : Int), v6 = .int .i64 x6_3 ∧ Aside0 (seneschallaw17_PastParts.l2 kq l0 x6_3 t309 t312 t315 = some r) ∧ Aside0 (kq ≤ k2) ∧ Aside0 (Kd.R k43 43 w' w.heap.size (fun _ => True) (.slice Ao11 t309.length co11) t309) ∧ Aside0 (Kd.R k24 24 w' w.heap.size (fun _ => True) (.slice Ao13 t312.length co13) t312) ∧ Aside0 (Kd.R k45 45 w' w.heap.size (fun _ => True) (.slice Ao14 t315.length co14) t315) ∧ Aside0 (w'.heap[gb318]? = some (.cells #[(.slice Ao11 t309.length co11), (.slice Ao13 t312.length co13), (.slice Ao14 t315.length co14)] 37 (0, 0))) ∧ Aside0 (Below w.heap.size w w'))
             case atStart => exact ⟨(0), (by first | rfl | (simp; done) | (simp [*]; done)), H', ⟨Nat.le_refl _⟩, ⟨by (with_reducible repeat (first | apply Kd.R_alloc | apply Kd.R_drewN | apply Kd.R_drew)); exact HO_319000.out⟩, ⟨by (with_reducible repeat (first | apply Kd.R_alloc | apply Kd.R_drewN | apply Kd.R_drew)); exact HO_319001.out⟩, ⟨by (with_reducible repeat (first | apply Kd.R_alloc | apply Kd.R_drewN | apply Kd.R_drew)); exact HO_319002.out⟩, ⟨by (with_reducible repeat (first | refine blk_drewN ?_ _ | refine blk_drew ?_ | refine blk_alloc ?_ _)); exact BK318.out⟩, ⟨by repeat (first | (with_reducible first | exact HB.out | apply below_alloc | apply pw_below_drewN | apply below_drew1 | refine below_set ?_ GE318.out) | exact HB.out)⟩⟩
             case round =>
              clear H'
              try clear c1
              try clear c2
              try clear p2
              try clear c3
              try clear p3
              try clear q3
              try clear hx3
              try clear c4
              try clear c5
              try clear p6
              try clear c8
              try clear c9
              try clear c13
              try clear c15
              try clear c15b0
              try clear c17
              try clear c17b0
              try clear c18
              try clear c18b0
              try clear c19
              try clear c19b0
              try clear c21
              try clear c29
              try clear c29b0
              try clear c31
              try clear c31b0
              try clear p31
              try clear q31
              try clear hx31
              try clear c32
              try clear c32b0
              try clear p32
              try clear q32
              try clear hx32
              try clear c33
              try clear c33b0
              try clear c34
              try clear c34b0
              try clear hcz12_0
              try clear hcz12_1
              try clear hcz12_2
              try clear hcz22_0
              try clear hcz22_1
              try clear hcz22_2
              try clear hcz25_0
              try clear hcz25_1
              try clear hcz25_2
              try clear hcz28_0
              try clear hcz28_1
              try clear hcz28_2
              try clear hcz35_0
              try clear hcz35_1
              try clear hcz35_2
              try clear hcz37_0
              try clear hcz37_1
              try clear hcz37_2
              try clear hcz39_0
              try clear hcz39_1
              try clear hcz39_2
              try clear hfz12_0
              try clear hfz12_1
              try clear hfz12_2
              try clear hfz22_0
              try clear hfz22_1
              try clear hfz22_2
              try clear hfz25_0
              try clear hfz25_1
              try clear hfz25_2
              try clear hfz28_0
              try clear hfz28_1
              try clear hfz28_2
              try clear hfz35_0
              try clear hfz35_1
              try clear hfz35_2
              try clear hfz37_0
              try clear hfz37_1
              try clear hfz37_2
              try clear hfz39_0
              try clear hfz39_1
              try clear hfz39_2
              try clear hx319_0
              try clear hx319_1
              try clear hx319_2
              try clear hx319_3
              try clear hx320_0
              try clear hx320_1
              try clear hx320_2
              try clear hx320_3
              try clear hx322_0
              try clear hx322_1
              try clear hx323_0
              try clear hx323_1
              try clear p2
              try clear p3
              try clear p319
              try clear p320
              try clear p322
              try clear p323
              try clear p6
              try clear q3
              try clear q319
              try clear q320
              try clear q322
              try clear q323
              obtain ⟨x6_3, rfl, HA, HK3, HO_319000, HO_319001, HO_319002, BK318, HB⟩ := hrel
              cases gk with
              | zero => exact absurd HA.out (by simp [seneschallaw17_PastParts.l2])
              | succ k3 =>
               have H := HA.out
               clear HA
               simp only [seneschallaw17_PastParts.l2] at H
               by_cases c40 : x6_3 < (l0.length : Int)
               · rw [if_pos c40] at H
                 have c40b0 : decide (x6_3 < (l0.length : Int)) = true := decide_eq_true c40
                 clear c40
                 by_cases c41 : 0 ≤ x6_3
                 · rw [if_pos c41] at H
                   have c41b0 : decide (0 ≤ x6_3) = true := decide_eq_true c41
                   clear c41
                   replace H := Option.bind_eq_some_iff.mp H
                   obtain ⟨t325, A420, H⟩ := H
                   replace H : (if t325 = true then ((past_Of.f k3 l0 ((rd_T31 l0 x6_3).f1.f0) ((rd_T31 l0 x6_3).f1.f1) ((rd_T31 l0 x6_3).f1.f2)).bind fun t327 => (seneschallaw17_PastParts.l3 k3 l0 x6_3 t327 false 0 t309 t312 t315)) else (seneschallaw17_PastParts.l2 k3 l0 (wrap64 (x6_3 + 1)) t309 t312 t315)) = some r := H
                   have A42 := Aside0.mk A420
                   clear A420
                   by_cases c43 : t325 = true
                   · subst c43
                     have H1 : ((past_Of.f k3 l0 ((rd_T31 l0 x6_3).f1.f0) ((rd_T31 l0 x6_3).f1.f1) ((rd_T31 l0 x6_3).f1.f2)).bind fun t327 => (seneschallaw17_PastParts.l3 k3 l0 x6_3 t327 false 0 t309 t312 t315)) = some r := by rw [if_pos rfl] at H; exact H
                     clear H
                     have H := H1
                     clear H1
                     replace H := Option.bind_eq_some_iff.mp H
                     obtain ⟨t327, A440, H⟩ := H
                     replace H : (seneschallaw17_PastParts.l3 k3 l0 x6_3 t327 false 0 t309 t312 t315) = some r := H
                     have A44 := Aside0.mk A440
                     clear A440
                     have H' := Aside0.mk H
                     clear H
                     have p324 : 0 ≤ (x6_3 : Int) := of_decide_eq_true (by first | (with_reducible assumption) | assumption)
                     have q324 : x6_3 < (l0.length : Int) := of_decide_eq_true (by first | (with_reducible assumption) | assumption)
                     obtain ⟨ad324, e324, hx324_0, hx324_1, hx324_2, hx324_3, hx324_4, hx324_5, hx324_6, hx324_7, hx324_8, hx324_9, hx324_10, hx324_11, hx324_12⟩ := at_T31 HR0.out x6_3 p324 q324
                     cases e324
                     replace hx324_0 := (HB.out.cell (World.block_lt_of_cell? w _ hx324_0)).trans hx324_0
                     replace hx324_1 := (HB.out.cell (World.block_lt_of_cell? w _ hx324_1)).trans hx324_1
                     replace hx324_2 := (HB.out.cell (World.block_lt_of_cell? w _ hx324_2)).trans hx324_2
                     replace hx324_3 := (HB.out.cell (World.block_lt_of_cell? w _ hx324_3)).trans hx324_3
                     replace hx324_4 := (HB.out.cell (World.block_lt_of_cell? w _ hx324_4)).trans hx324_4
                     replace hx324_5 := (HB.out.cell (World.block_lt_of_cell? w _ hx324_5)).trans hx324_5
                     replace hx324_6 := (HB.out.cell (World.block_lt_of_cell? w _ hx324_6)).trans hx324_6
                     replace hx324_7 := (HB.out.cell (World.block_lt_of_cell? w _ hx324_7)).trans hx324_7
                     replace hx324_8 := (HB.out.cell (World.block_lt_of_cell? w _ hx324_8)).trans hx324_8
                     replace hx324_9 := (HB.out.cell (World.block_lt_of_cell? w _ hx324_9)).trans hx324_9
                     replace hx324_10 := (HB.out.cell (World.block_lt_of_cell? w _ hx324_10)).trans hx324_10
                     replace hx324_11 := (HB.out.cell (World.block_lt_of_cell? w _ hx324_11)).trans hx324_11
                     replace hx324_12 := (HB.out.cell (World.block_lt_of_cell? w _ hx324_12)).trans hx324_12
                     replace p324 := eq_true p324
                     replace q324 := eq_true q324
                     go_wp2_with (first | ((with_reducible refine gate_callee (f := 18) rfl ?_); refine goesL_ (some 73) rfl rfl Try.func18 (by kernel_rfl) rfl #[.agg #[.int .i64 ((rd_T31 l0 x6_3).f0), .int .i64 ((rd_T31 l0 x6_3).f1.f0), .int .i64 ((rd_T31 l0 x6_3).f1.f1), .int .i64 ((rd_T31 l0 x6_3).f1.f2), .int .i64 ((rd_T31 l0 x6_3).f2), .int .i64 ((rd_T31 l0 x6_3).f3), .int .i64 ((rd_T31 l0 x6_3).f4), .int .i64 ((rd_T31 l0 x6_3).f5), .bool ((rd_T31 l0 x6_3).f6.f0), .string ((rd_T31 l0 x6_3).f6.f1), .bool ((rd_T31 l0 x6_3).f7.f0), .string ((rd_T31 l0 x6_3).f7.f1), .int .i64 ((rd_T31 l0 x6_3).f8)]] rfl (by (try simp only [List.map_toArray, List.map_cons, List.map_nil]); first | done | rfl | (simp only [List.length_drop, List.length_take]; rfl)) ?_; (with_reducible refine (entry_Good.calls k3 ((rd_T31 l0 x6_3).f0) ((rd_T31 l0 x6_3).f1.f0) ((rd_T31 l0 x6_3).f1.f1) ((rd_T31 l0 x6_3).f1.f2) ((rd_T31 l0 x6_3).f2) ((rd_T31 l0 x6_3).f3) ((rd_T31 l0 x6_3).f4) ((rd_T31 l0 x6_3).f5) ((rd_T31 l0 x6_3).f6.f0) ((rd_T31 l0 x6_3).f6.f1) ((rd_T31 l0 x6_3).f7.f0) ((rd_T31 l0 x6_3).f7.f1) ((rd_T31 l0 x6_3).f8) true _ A42.out).mono ?_); rintro e w45 ⟨rfl, hb⟩; refine ⟨_, rfl, ?_⟩; have n0_ := Aside0.mk (Kd.R_below (by (with_reducible repeat (first | apply Kd.R_alloc | apply Kd.R_drewN | apply Kd.R_drew)); exact HO_319000.out) hb); have n1_ := Aside0.mk (Kd.R_below (by (with_reducible repeat (first | apply Kd.R_alloc | apply Kd.R_drewN | apply Kd.R_drew)); exact HO_319001.out) hb); have n2_ := Aside0.mk (Kd.R_below (by (with_reducible repeat (first | apply Kd.R_alloc | apply Kd.R_drewN | apply Kd.R_drew)); exact HO_319002.out) hb); have n3_ := Aside0.mk (blk_below (g := gb318) (o := .cells #[.slice Ao11 t309.length co11, .slice Ao13 t312.length co13, .slice Ao14 t315.length co14] 37 (0, 0)) (by (with_reducible repeat (first | refine blk_drewN ?_ _ | refine blk_drew ?_ | refine blk_alloc ?_ _)); exact BK318.out) hb); have n4_ := Aside0.mk (below_step (by repeat (first | (with_reducible first | exact HB.out | apply below_alloc | apply pw_below_drewN | apply below_drew1 | refine below_set ?_ GE318.out) | exact HB.out)) hb); clear HO_319000; clear HO_319001; clear HO_319002; clear BK318; clear HB; have HO_319000 := n0_; have HO_319001 := n1_; have HO_319002 := n2_; have BK318 := n3_; have HB := n4_; clear n0_ n1_ n2_ n3_ n4_; (try clear hb); (try clear hb2); (try clear hk); (try clear hi); have p326 : 0 ≤ (x6_3 : Int) := of_decide_eq_true (by first | (with_reducible assumption) | assumption); have q326 : x6_3 < (l0.length : Int) := of_decide_eq_true (by first | (with_reducible assumption) | assumption); obtain ⟨ad326, e326, hx326_0, hx326_1, hx326_2, hx326_3, hx326_4, hx326_5, hx326_6, hx326_7, hx326_8, hx326_9, hx326_10, hx326_11, hx326_12⟩ := at_T31 HR0.out x6_3 p326 q326; obtain rfl : ad324 = ad326 := (by injection e326); replace hx326_0 := (HB.out.cell (World.block_lt_of_cell? w _ hx326_0)).trans hx326_0; replace hx326_1 := (HB.out.cell (World.block_lt_of_cell? w _ hx326_1)).trans hx326_1; replace hx326_2 := (HB.out.cell (World.block_lt_of_cell? w _ hx326_2)).trans hx326_2; replace hx326_3 := (HB.out.cell (World.block_lt_of_cell? w _ hx326_3)).trans hx326_3; replace hx326_4 := (HB.out.cell (World.block_lt_of_cell? w _ hx326_4)).trans hx326_4; replace hx326_5 := (HB.out.cell (World.block_lt_of_cell? w _ hx326_5)).trans hx326_5; replace hx326_6 := (HB.out.cell (World.block_lt_of_cell? w _ hx326_6)).trans hx326_6; replace hx326_7 := (HB.out.cell (World.block_lt_of_cell? w _ hx326_7)).trans hx326_7; replace hx326_8 := (HB.out.cell (World.block_lt_of_cell? w _ hx326_8)).trans hx326_8; replace hx326_9 := (HB.out.cell (World.block_lt_of_cell? w _ hx326_9)).trans hx326_9; replace hx326_10 := (HB.out.cell (World.block_lt_of_cell? w _ hx326_10)).trans hx326_10; replace hx326_11 := (HB.out.cell (World.block_lt_of_cell? w _ hx326_11)).trans hx326_11; replace hx326_12 := (HB.out.cell (World.block_lt_of_cell? w _ hx326_12)).trans hx326_12; replace p326 := eq_true p326; replace q326 := eq_true q326) | ((with_reducible refine gate_callee (f := 10) rfl ?_); refine goesL_ (some 81) rfl rfl Try.func10 (by kernel_rfl) rfl #[.slice (some ad324) l0.length c0, .agg #[.int .i64 ((rd_T31 l0 x6_3).f1.f0), .int .i64 ((rd_T31 l0 x6_3).f1.f1), .int .i64 ((rd_T31 l0 x6_3).f1.f2)]] rfl (by (try simp only [List.map_toArray, List.map_cons, List.map_nil]); first | done | rfl | (simp only [List.length_drop, List.length_take]; rfl)) ?_; (with_reducible refine (past_Of.calls k3 _ _ l0 ((rd_T31 l0 x6_3).f1.f0) ((rd_T31 l0 x6_3).f1.f1) ((rd_T31 l0 x6_3).f1.f2) t327 _ ?side1 ?side2 A44.out).mono ?_); (case side1 => repeat (first | exact (Kd.C_below HR0.out HB.out) | (with_reducible refine Kd.C_alloc ?_ _) | (with_reducible refine Kd.C_drewN ?_ _) | (with_reducible refine Kd.C_drew ?_))); (case side2 => exact HC0.out); rintro e w46 ⟨v328, rfl, ho0, hb⟩; refine ⟨_, rfl, ?_⟩; have n0_ := Aside0.mk (Kd.R_below (by (with_reducible repeat (first | apply Kd.R_alloc | apply Kd.R_drewN | apply Kd.R_drew)); exact HO_319000.out) hb); have n1_ := Aside0.mk (Kd.R_below (by (with_reducible repeat (first | apply Kd.R_alloc | apply Kd.R_drewN | apply Kd.R_drew)); exact HO_319001.out) hb); have n2_ := Aside0.mk (Kd.R_below (by (with_reducible repeat (first | apply Kd.R_alloc | apply Kd.R_drewN | apply Kd.R_drew)); exact HO_319002.out) hb); have n3_ := Aside0.mk (Kd.R_lower ho0 (below_size (by repeat (first | (with_reducible first | exact HB.out | apply below_alloc | apply pw_below_drewN | apply below_drew1 | refine below_set ?_ GE318.out) | exact HB.out)))); have n4_ := Aside0.mk (blk_below (g := gb318) (o := .cells #[.slice Ao11 t309.length co11, .slice Ao13 t312.length co13, .slice Ao14 t315.length co14] 37 (0, 0)) (by (with_reducible repeat (first | refine blk_drewN ?_ _ | refine blk_drew ?_ | refine blk_alloc ?_ _)); exact BK318.out) hb); have n5_ := Aside0.mk (below_step (by repeat (first | (with_reducible first | exact HB.out | apply below_alloc | apply pw_below_drewN | apply below_drew1 | refine below_set ?_ GE318.out) | exact HB.out)) hb); clear HO_319000; clear HO_319001; clear HO_319002; clear BK318; clear HB; have HO_319000 := n0_; have HO_319001 := n1_; have HO_319002 := n2_; have HO329 := n3_; have BK318 := n4_; have HB := n5_; clear n0_ n1_ n2_ n3_ n4_ n5_; (try clear hb); (try clear hb2); (try clear hk); (try clear hi); (try clear ho0)))
                     go_loopg [8, 9] k3 (fun kq v8 v9 w' => ∃ (x8_4 : Bool) (x9_4 : Int), v8 = .bool x8_4 ∧ v9 = .int .i64 x9_4 ∧ Aside0 (seneschallaw17_PastParts.l3 kq l0 x6_3 t327 x8_4 x9_4 t309 t312 t315 = some r) ∧ Aside0 (kq ≤ k3) ∧ Aside0 (Kd.R k31 31 w' w.heap.size (fun _ => True) v328 t327) ∧ Aside0 (Kd.R k43 43 w' w.heap.size (fun _ => True) (.slice Ao11 t309.length co11) t309) ∧ Aside0 (Kd.R k24 24 w' w.heap.size (fun _ => True) (.slice Ao13 t312.length co13) t312) ∧ Aside0 (Kd.R k45 45 w' w.heap.size (fun _ => True) (.slice Ao14 t315.length co14) t315) ∧ Aside0 (w'.heap[gb318]? = some (.cells #[(.slice Ao11 t309.length co11), (.slice Ao13 t312.length co13), (.slice Ao14 t315.length co14)] 37 (0, 0))) ∧ Aside0 (Below w.heap.size w w'))
                     case atStart => exact ⟨(false), (0), (by first | rfl | (simp; done) | (simp [*]; done)), (by first | rfl | (simp; done) | (simp [*]; done)), H', ⟨Nat.le_refl _⟩, ⟨by (with_reducible repeat (first | apply Kd.R_alloc | apply Kd.R_drewN | apply Kd.R_drew)); exact HO329.out⟩, ⟨by (with_reducible repeat (first | apply Kd.R_alloc | apply Kd.R_drewN | apply Kd.R_drew)); exact HO_319000.out⟩, ⟨by (with_reducible repeat (first | apply Kd.R_alloc | apply Kd.R_drewN | apply Kd.R_drew)); exact HO_319001.out⟩, ⟨by (with_reducible repeat (first | apply Kd.R_alloc | apply Kd.R_drewN | apply Kd.R_drew)); exact HO_319002.out⟩, ⟨by (with_reducible repeat (first | refine blk_drewN ?_ _ | refine blk_drew ?_ | refine blk_alloc ?_ _)); exact BK318.out⟩, ⟨by repeat (first | (with_reducible first | exact HB.out | apply below_alloc | apply pw_below_drewN | apply below_drew1 | refine below_set ?_ GE318.out) | exact HB.out)⟩⟩
                     case round =>
                      clear H'
                      try clear c1
                      try clear c2
                      try clear p2
                      try clear c3
                      try clear p3
                      try clear q3
                      try clear hx3
                      try clear c4
                      try clear c5
                      try clear p6
                      try clear c8
                      try clear c9
                      try clear c10
                      try clear c13
                      try clear c15
                      try clear c15b0
                      try clear c17
                      try clear c17b0
                      try clear c18
                      try clear c18b0
                      try clear c19
                      try clear c19b0
                      try clear c21
                      try clear c29
                      try clear c29b0
                      try clear c31
                      try clear c31b0
                      try clear p31
                      try clear q31
                      try clear hx31
                      try clear c32
                      try clear c32b0
                      try clear p32
                      try clear q32
                      try clear hx32
                      try clear c33
                      try clear c33b0
                      try clear c34
                      try clear c34b0
                      try clear c40
                      try clear c40b0
                      try clear c41
                      try clear c41b0
                      try clear c43
                      try clear hcz12_0
                      try clear hcz12_1
                      try clear hcz12_2
                      try clear hcz22_0
                      try clear hcz22_1
                      try clear hcz22_2
                      try clear hcz25_0
                      try clear hcz25_1
                      try clear hcz25_2
                      try clear hcz28_0
                      try clear hcz28_1
                      try clear hcz28_2
                      try clear hcz35_0
                      try clear hcz35_1
                      try clear hcz35_2
                      try clear hcz37_0
                      try clear hcz37_1
                      try clear hcz37_2
                      try clear hcz39_0
                      try clear hcz39_1
                      try clear hcz39_2
                      try clear hfz12_0
                      try clear hfz12_1
                      try clear hfz12_2
                      try clear hfz22_0
                      try clear hfz22_1
                      try clear hfz22_2
                      try clear hfz25_0
                      try clear hfz25_1
                      try clear hfz25_2
                      try clear hfz28_0
                      try clear hfz28_1
                      try clear hfz28_2
                      try clear hfz35_0
                      try clear hfz35_1
                      try clear hfz35_2
                      try clear hfz37_0
                      try clear hfz37_1
                      try clear hfz37_2
                      try clear hfz39_0
                      try clear hfz39_1
                      try clear hfz39_2
                      try clear hx319_0
                      try clear hx319_1
                      try clear hx319_2
                      try clear hx319_3
                      try clear hx320_0
                      try clear hx320_1
                      try clear hx320_2
                      try clear hx320_3
                      try clear hx322_0
                      try clear hx322_1
                      try clear hx323_0
                      try clear hx323_1
                      try clear hx324_0
                      try clear hx324_1
                      try clear hx324_10
                      try clear hx324_11
                      try clear hx324_12
                      try clear hx324_2
                      try clear hx324_3
                      try clear hx324_4
                      try clear hx324_5
                      try clear hx324_6
                      try clear hx324_7
                      try clear hx324_8
                      try clear hx324_9
                      try clear hx326_0
                      try clear hx326_1
                      try clear hx326_10
                      try clear hx326_11
                      try clear hx326_12
                      try clear hx326_2
                      try clear hx326_3
                      try clear hx326_4
                      try clear hx326_5
                      try clear hx326_6
                      try clear hx326_7
                      try clear hx326_8
                      try clear hx326_9
                      try clear p2
                      try clear p3
                      try clear p31
                      try clear p319
                      try clear p32
                      try clear p320
                      try clear p322
                      try clear p323
                      try clear p324
                      try clear p326
                      try clear p6
                      try clear q3
                      try clear q31
                      try clear q319
                      try clear q32
                      try clear q320
                      try clear q322
                      try clear q323
                      try clear q324
                      try clear q326
                      obtain ⟨x8_4, x9_4, rfl, rfl, HA, HK4, HO_7, HO_319000, HO_319001, HO_319002, BK318, HB⟩ := hrel
                      cases gk with
                      | zero => exact absurd HA.out (by simp [seneschallaw17_PastParts.l3])
                      | succ k4 =>
                       have H := HA.out
                       clear HA
                       simp only [seneschallaw17_PastParts.l3] at H
                       by_cases c47 : x9_4 < (t327.length : Int)
                       · rw [if_pos c47] at H
                         have c47b0 : decide (x9_4 < (t327.length : Int)) = true := decide_eq_true c47
                         clear c47
                         by_cases c48 : x8_4 = true
                         · subst c48
                           have H1 : (seneschallaw17_PastParts.l3 k4 l0 x6_3 t327 true (wrap64 (x9_4 + 1)) t309 t312 t315) = some r := by rw [if_pos rfl] at H; exact H
                           clear H
                           have H := H1
                           clear H1
                           have H' := Aside0.mk H
                           clear H
                           obtain ⟨Ao49, co49, eo49⟩ := Kd.R_slice HO_7.out
                           subst eo49
                           go_wp2
                           go_roundg k4
                           case measure => have := HK1.out; have := HK2.out; have := HK3.out; have := HK4.out; omega
                           case rel => exact ⟨(true), (wrap64 (x9_4 + 1)), (by first | rfl | (simp; done) | (simp [*]; done)), (by first | rfl | (simp; done) | (simp [*]; done)), H', ⟨by have := HK1.out; have := HK2.out; have := HK3.out; have := HK4.out; omega⟩, ⟨by (with_reducible repeat (first | apply Kd.R_alloc | apply Kd.R_drewN | apply Kd.R_drew)); exact HO_7.out⟩, ⟨by (with_reducible repeat (first | apply Kd.R_alloc | apply Kd.R_drewN | apply Kd.R_drew)); exact HO_319000.out⟩, ⟨by (with_reducible repeat (first | apply Kd.R_alloc | apply Kd.R_drewN | apply Kd.R_drew)); exact HO_319001.out⟩, ⟨by (with_reducible repeat (first | apply Kd.R_alloc | apply Kd.R_drewN | apply Kd.R_drew)); exact HO_319002.out⟩, ⟨by (with_reducible repeat (first | refine blk_drewN ?_ _ | refine blk_drew ?_ | refine blk_alloc ?_ _)); exact BK318.out⟩, ⟨by repeat (first | (with_reducible first | exact HB.out | apply below_alloc | apply pw_below_drewN | apply below_drew1 | refine below_set ?_ GE318.out) | exact HB.out)⟩⟩
                         · replace c48 := Bool.eq_false_iff.mpr c48
                           subst c48
                           have H1 : (if 0 ≤ x9_4 then (if ((rd_T31 t327 x9_4).f0) = 3 then (seneschallaw17_PastParts.l3 k4 l0 x6_3 t327 true (wrap64 (x9_4 + 1)) t309 t312 t315) else (seneschallaw17_PastParts.l3 k4 l0 x6_3 t327 (((rd_T31 t327 x9_4).f0) == 4) (wrap64 (x9_4 + 1)) t309 t312 t315)) else (none)) = some r := by rw [if_neg (show ¬ (false = true) by decide)] at H; exact H
                           clear H
                           have H := H1
                           clear H1
                           by_cases c50 : 0 ≤ x9_4
                           · rw [if_pos c50] at H
                             have c50b0 : decide (0 ≤ x9_4) = true := decide_eq_true c50
                             clear c50
                             by_cases c51 : ((rd_T31 t327 x9_4).f0) = 3
                             · rw [if_pos c51] at H
                               have c51b0 : (((rd_T31 t327 x9_4).f0) == 3) = true := beq_iff_eq.mpr c51
                               have c51b1 : (((rd_T31 t327 x9_4).f0) != 3) = false := bne_eq_false_iff_eq.mpr c51
                               clear c51
                               have H' := Aside0.mk H
                               clear H
                               obtain ⟨Ao52, co52, eo52⟩ := Kd.R_slice HO_7.out
                               subst eo52
                               have p330 : 0 ≤ (x9_4 : Int) := of_decide_eq_true (by first | (with_reducible assumption) | assumption)
                               have q330 : x9_4 < (t327.length : Int) := of_decide_eq_true (by first | (with_reducible assumption) | assumption)
                               obtain ⟨ad330, e330, hx330_0, hx330_1, hx330_2, hx330_3, hx330_4, hx330_5, hx330_6, hx330_7, hx330_8, hx330_9, hx330_10, hx330_11, hx330_12⟩ := at_T31 (Kd.R_reads' HO_7.out).2.2 x9_4 p330 q330
                               cases e330
                               replace p330 := eq_true p330
                               replace q330 := eq_true q330
                               go_wp2
                               go_roundg k4
                               case measure => have := HK1.out; have := HK2.out; have := HK3.out; have := HK4.out; omega
                               case rel => exact ⟨(true), (wrap64 (x9_4 + 1)), (by first | rfl | (simp; done) | (simp [*]; done)), (by first | rfl | (simp; done) | (simp [*]; done)), H', ⟨by have := HK1.out; have := HK2.out; have := HK3.out; have := HK4.out; omega⟩, ⟨by (with_reducible repeat (first | apply Kd.R_alloc | apply Kd.R_drewN | apply Kd.R_drew)); exact HO_7.out⟩, ⟨by (with_reducible repeat (first | apply Kd.R_alloc | apply Kd.R_drewN | apply Kd.R_drew)); exact HO_319000.out⟩, ⟨by (with_reducible repeat (first | apply Kd.R_alloc | apply Kd.R_drewN | apply Kd.R_drew)); exact HO_319001.out⟩, ⟨by (with_reducible repeat (first | apply Kd.R_alloc | apply Kd.R_drewN | apply Kd.R_drew)); exact HO_319002.out⟩, ⟨by (with_reducible repeat (first | refine blk_drewN ?_ _ | refine blk_drew ?_ | refine blk_alloc ?_ _)); exact BK318.out⟩, ⟨by repeat (first | (with_reducible first | exact HB.out | apply below_alloc | apply pw_below_drewN | apply below_drew1 | refine below_set ?_ GE318.out) | exact HB.out)⟩⟩
                             · rw [if_neg c51] at H
                               have c51b0 : (((rd_T31 t327 x9_4).f0) == 3) = false := beq_eq_false_iff_ne.mpr c51
                               have c51b1 : (((rd_T31 t327 x9_4).f0) != 3) = true := bne_iff_ne.mpr c51
                               have H' := Aside0.mk H
                               clear H
                               obtain ⟨Ao53, co53, eo53⟩ := Kd.R_slice HO_7.out
                               subst eo53
                               have p330 : 0 ≤ (x9_4 : Int) := of_decide_eq_true (by first | (with_reducible assumption) | assumption)
                               have q330 : x9_4 < (t327.length : Int) := of_decide_eq_true (by first | (with_reducible assumption) | assumption)
                               obtain ⟨ad330, e330, hx330_0, hx330_1, hx330_2, hx330_3, hx330_4, hx330_5, hx330_6, hx330_7, hx330_8, hx330_9, hx330_10, hx330_11, hx330_12⟩ := at_T31 (Kd.R_reads' HO_7.out).2.2 x9_4 p330 q330
                               cases e330
                               replace p330 := eq_true p330
                               replace q330 := eq_true q330
                               have p331 : 0 ≤ (x9_4 : Int) := of_decide_eq_true (by first | (with_reducible assumption) | assumption)
                               have q331 : x9_4 < (t327.length : Int) := of_decide_eq_true (by first | (with_reducible assumption) | assumption)
                               obtain ⟨ad331, e331, hx331_0, hx331_1, hx331_2, hx331_3, hx331_4, hx331_5, hx331_6, hx331_7, hx331_8, hx331_9, hx331_10, hx331_11, hx331_12⟩ := at_T31 (Kd.R_reads' HO_7.out).2.2 x9_4 p331 q331
                               obtain rfl : ad330 = ad331 := (by injection e331)
                               replace p331 := eq_true p331
                               replace q331 := eq_true q331
                               go_wp2
                               go_roundg k4
                               case measure => have := HK1.out; have := HK2.out; have := HK3.out; have := HK4.out; omega
                               case rel => exact ⟨((((rd_T31 t327 x9_4).f0) == 4)), (wrap64 (x9_4 + 1)), (by first | rfl | (simp; done) | (simp [*]; done)), (by first | rfl | (simp; done) | (simp [*]; done)), H', ⟨by have := HK1.out; have := HK2.out; have := HK3.out; have := HK4.out; omega⟩, ⟨by (with_reducible repeat (first | apply Kd.R_alloc | apply Kd.R_drewN | apply Kd.R_drew)); exact HO_7.out⟩, ⟨by (with_reducible repeat (first | apply Kd.R_alloc | apply Kd.R_drewN | apply Kd.R_drew)); exact HO_319000.out⟩, ⟨by (with_reducible repeat (first | apply Kd.R_alloc | apply Kd.R_drewN | apply Kd.R_drew)); exact HO_319001.out⟩, ⟨by (with_reducible repeat (first | apply Kd.R_alloc | apply Kd.R_drewN | apply Kd.R_drew)); exact HO_319002.out⟩, ⟨by (with_reducible repeat (first | refine blk_drewN ?_ _ | refine blk_drew ?_ | refine blk_alloc ?_ _)); exact BK318.out⟩, ⟨by repeat (first | (with_reducible first | exact HB.out | apply below_alloc | apply pw_below_drewN | apply below_drew1 | refine below_set ?_ GE318.out) | exact HB.out)⟩⟩
                           · rw [if_neg c50] at H
                             exact absurd H (by simp)
                       · rw [if_neg c47] at H
                         have c47b0 : decide (x9_4 < (t327.length : Int)) = false := decide_eq_false c47
                         clear c47
                         have H' := Aside0.mk H
                         clear H
                         obtain ⟨Ao54, co54, eo54⟩ := Kd.R_slice HO_7.out
                         subst eo54
                         go_wp2
                         go_loopg [10, 11] k4 (fun kq v10 v11 w' => ∃ (x10_5 : Bool) (x11_5 : Int), v10 = .bool x10_5 ∧ v11 = .int .i64 x11_5 ∧ Aside0 (seneschallaw17_PastParts.l4 kq l0 x6_3 t327 x8_4 x10_5 x11_5 t309 t312 t315 = some r) ∧ Aside0 (kq ≤ k4) ∧ Aside0 (Kd.R k31 31 w' w.heap.size (fun _ => True) (.slice Ao54 t327.length co54) t327) ∧ Aside0 (Kd.R k43 43 w' w.heap.size (fun _ => True) (.slice Ao11 t309.length co11) t309) ∧ Aside0 (Kd.R k24 24 w' w.heap.size (fun _ => True) (.slice Ao13 t312.length co13) t312) ∧ Aside0 (Kd.R k45 45 w' w.heap.size (fun _ => True) (.slice Ao14 t315.length co14) t315) ∧ Aside0 (w'.heap[gb318]? = some (.cells #[(.slice Ao11 t309.length co11), (.slice Ao13 t312.length co13), (.slice Ao14 t315.length co14)] 37 (0, 0))) ∧ Aside0 (Below w.heap.size w w'))
                         case atStart => exact ⟨(false), (0), (by first | rfl | (simp; done) | (simp [*]; done)), (by first | rfl | (simp; done) | (simp [*]; done)), H', ⟨Nat.le_refl _⟩, ⟨by (with_reducible repeat (first | apply Kd.R_alloc | apply Kd.R_drewN | apply Kd.R_drew)); exact HO_7.out⟩, ⟨by (with_reducible repeat (first | apply Kd.R_alloc | apply Kd.R_drewN | apply Kd.R_drew)); exact HO_319000.out⟩, ⟨by (with_reducible repeat (first | apply Kd.R_alloc | apply Kd.R_drewN | apply Kd.R_drew)); exact HO_319001.out⟩, ⟨by (with_reducible repeat (first | apply Kd.R_alloc | apply Kd.R_drewN | apply Kd.R_drew)); exact HO_319002.out⟩, ⟨by (with_reducible repeat (first | refine blk_drewN ?_ _ | refine blk_drew ?_ | refine blk_alloc ?_ _)); exact BK318.out⟩, ⟨by repeat (first | (with_reducible first | exact HB.out | apply below_alloc | apply pw_below_drewN | apply below_drew1 | refine below_set ?_ GE318.out) | exact HB.out)⟩⟩
                         case round =>
                          clear H'
                          try clear c1
                          try clear c2
                          try clear p2
                          try clear c3
                          try clear p3
                          try clear q3
                          try clear hx3
                          try clear c4
                          try clear c5
                          try clear p6
                          try clear c8
                          try clear c9
                          try clear c10
                          try clear c13
                          try clear c15
                          try clear c15b0
                          try clear c17
                          try clear c17b0
                          try clear c18
                          try clear c18b0
                          try clear c19
                          try clear c19b0
                          try clear c21
                          try clear c29
                          try clear c29b0
                          try clear c31
                          try clear c31b0
                          try clear p31
                          try clear q31
                          try clear hx31
                          try clear c32
                          try clear c32b0
                          try clear p32
                          try clear q32
                          try clear hx32
                          try clear c33
                          try clear c33b0
                          try clear p33
                          try clear q33
                          try clear hx33
                          try clear c34
                          try clear c34b0
                          try clear c40
                          try clear c40b0
                          try clear c41
                          try clear c41b0
                          try clear c43
                          try clear c47
                          try clear c47b0
                          try clear c48
                          try clear c50
                          try clear c50b0
                          try clear c51
                          try clear c51b0
                          try clear c51b1
                          try clear hcz12_0
                          try clear hcz12_1
                          try clear hcz12_2
                          try clear hcz22_0
                          try clear hcz22_1
                          try clear hcz22_2
                          try clear hcz25_0
                          try clear hcz25_1
                          try clear hcz25_2
                          try clear hcz28_0
                          try clear hcz28_1
                          try clear hcz28_2
                          try clear hcz35_0
                          try clear hcz35_1
                          try clear hcz35_2
                          try clear hcz37_0
                          try clear hcz37_1
                          try clear hcz37_2
                          try clear hcz39_0
                          try clear hcz39_1
                          try clear hcz39_2
                          try clear hfz12_0
                          try clear hfz12_1
                          try clear hfz12_2
                          try clear hfz22_0
                          try clear hfz22_1
                          try clear hfz22_2
                          try clear hfz25_0
                          try clear hfz25_1
                          try clear hfz25_2
                          try clear hfz28_0
                          try clear hfz28_1
                          try clear hfz28_2
                          try clear hfz35_0
                          try clear hfz35_1
                          try clear hfz35_2
                          try clear hfz37_0
                          try clear hfz37_1
                          try clear hfz37_2
                          try clear hfz39_0
                          try clear hfz39_1
                          try clear hfz39_2
                          try clear hx319_0
                          try clear hx319_1
                          try clear hx319_2
                          try clear hx319_3
                          try clear hx320_0
                          try clear hx320_1
                          try clear hx320_2
                          try clear hx320_3
                          try clear hx322_0
                          try clear hx322_1
                          try clear hx323_0
                          try clear hx323_1
                          try clear hx324_0
                          try clear hx324_1
                          try clear hx324_10
                          try clear hx324_11
                          try clear hx324_12
                          try clear hx324_2
                          try clear hx324_3
                          try clear hx324_4
                          try clear hx324_5
                          try clear hx324_6
                          try clear hx324_7
                          try clear hx324_8
                          try clear hx324_9
                          try clear hx326_0
                          try clear hx326_1
                          try clear hx326_10
                          try clear hx326_11
                          try clear hx326_12
                          try clear hx326_2
                          try clear hx326_3
                          try clear hx326_4
                          try clear hx326_5
                          try clear hx326_6
                          try clear hx326_7
                          try clear hx326_8
                          try clear hx326_9
                          try clear hx330_0
                          try clear hx330_1
                          try clear hx330_10
                          try clear hx330_11
                          try clear hx330_12
                          try clear hx330_2
                          try clear hx330_3
                          try clear hx330_4
                          try clear hx330_5
                          try clear hx330_6
                          try clear hx330_7
                          try clear hx330_8
                          try clear hx330_9
                          try clear hx331_0
                          try clear hx331_1
                          try clear hx331_10
                          try clear hx331_11
                          try clear hx331_12
                          try clear hx331_2
                          try clear hx331_3
                          try clear hx331_4
                          try clear hx331_5
                          try clear hx331_6
                          try clear hx331_7
                          try clear hx331_8
                          try clear hx331_9
                          try clear p2
                          try clear p3
                          try clear p31
                          try clear p319
                          try clear p32
                          try clear p320
                          try clear p322
                          try clear p323
                          try clear p324
                          try clear p326
                          try clear p330
                          try clear p331
                          try clear p6
                          try clear q3
                          try clear q31
                          try clear q319
                          try clear q32
                          try clear q320
                          try clear q322
                          try clear q323
                          try clear q324
                          try clear q326
                          try clear q330
                          try clear q331
                          obtain ⟨x10_5, x11_5, rfl, rfl, HA, HK5, HO_7, HO_319000, HO_319001, HO_319002, BK318, HB⟩ := hrel
                          cases gk with
                          | zero => exact absurd HA.out (by simp [seneschallaw17_PastParts.l4])
                          | succ k5 =>
                           have H := HA.out
                           clear HA
                           simp only [seneschallaw17_PastParts.l4] at H
                           by_cases c55 : x11_5 < (t309.length : Int)
                           · rw [if_pos c55] at H
                             have c55b0 : decide (x11_5 < (t309.length : Int)) = true := decide_eq_true c55
                             clear c55
                             by_cases c56 : x10_5 = true
                             · subst c56
                               have H1 : (seneschallaw17_PastParts.l4 k5 l0 x6_3 t327 x8_4 true (wrap64 (x11_5 + 1)) t309 t312 t315) = some r := by rw [if_pos rfl] at H; exact H
                               clear H
                               have H := H1
                               clear H1
                               have H' := Aside0.mk H
                               clear H
                               have hcz57_0 : wr.cell? ⟨gb318, 0, none⟩ = some (.slice Ao11 t309.length co11) := (blk_cell BK318.out 0).trans rfl
                               have hcz57_1 : wr.cell? ⟨gb318, 1, none⟩ = some (.slice Ao13 t312.length co13) := (blk_cell BK318.out 1).trans rfl
                               have hcz57_2 : wr.cell? ⟨gb318, 2, none⟩ = some (.slice Ao14 t315.length co14) := (blk_cell BK318.out 2).trans rfl
                               have hfz57_0 := blk_frozen BK318.out 0
                               have hfz57_1 := blk_frozen BK318.out 1
                               have hfz57_2 := blk_frozen BK318.out 2
                               try go_wp2
                               have n0_ := Aside0.mk (Kd.R_drew HO_7.out)
                               have n1_ := Aside0.mk (Kd.R_drew HO_319000.out)
                               have n2_ := Aside0.mk (Kd.R_drew HO_319001.out)
                               have n3_ := Aside0.mk (Kd.R_drew HO_319002.out)
                               have n4_ := Aside0.mk (blk_drew BK318.out)
                               have n5_ := Aside0.mk (below_drew1 HB.out)
                               clear HO_7
                               clear HO_319000
                               clear HO_319001
                               clear HO_319002
                               clear BK318
                               clear HB
                               have HO_7 := n0_
                               have HO_319000 := n1_
                               have HO_319001 := n2_
                               have HO_319002 := n3_
                               have BK318 := n4_
                               have HB := n5_
                               clear n0_ n1_ n2_ n3_ n4_ n5_
                               refine start_ (n := 32) (S := fun w' => True) (ds := []) #[false, false, false, false, false, false, false, false, false, false, false, false, false, false, false, false, false, false, false, false, false, false, false, false, false, false, false, false, false, false, false, false] (by kernel_rfl) rfl rfl trivial (fun hHeld => ?_); refine with_tabW seneschallaw17_PastParts.tab30 seneschallaw17_PastParts.bits30 (fun HT_ HW_ => ?_)
                               generalize wr.drew = w58 at HO_7 HO_319000 HO_319001 HO_319002 BK318 HB hHeld ⊢
                               refine pure_ (i := 0) (N := some 112) (v := ?_) (a' := ?_) #[true, false, false, false, false, false, false, false, false, false, false, false, false, false, false, false, false, false, false, false, false, false, false, false, false, false, false, false, false, false, false, false] rfl rfl (any_of HT_.out (by kernel_rfl)) (fun _ _ _ h => h) (Or.inl ⟨by rfl, ?_⟩) ?_ ?_; rotate_left; intro w'; go_simp; with_reducible rfl; rotate_left; simp only [Act.put, List.setIfInBounds_toArray, List.set_cons_zero, List.set_cons_succ, i64_w, i32_w]; rfl
                               refine pure_ (i := 1) (N := some 113) (v := ?_) (a' := ?_) #[true, true, false, false, false, false, false, false, false, false, false, false, false, false, false, false, false, false, false, false, false, false, false, false, false, false, false, false, false, false, false, false] rfl rfl (any_of HT_.out (by kernel_rfl)) (fun _ _ _ h => h) (Or.inl ⟨by rfl, ?_⟩) ?_ ?_; rotate_left; intro w'; go_simp; with_reducible rfl; rotate_left; simp only [Act.put, List.setIfInBounds_toArray, List.set_cons_zero, List.set_cons_succ, i64_w, i32_w]; rfl
                               refine pure_ (i := 2) (N := some 114) (v := undef) (a' := ?_) #[true, true, true, false, false, false, false, false, false, false, false, false, false, false, false, false, false, false, false, false, false, false, false, false, false, false, false, false, false, false, false, false] rfl rfl (any_of HT_.out (by kernel_rfl)) (fun _ _ _ h => h) (Or.inr ⟨by rfl, rfl⟩) ?_ ?_
                               rotate_left
                               · simp only [Act.put, List.setIfInBounds_toArray, List.set_cons_zero, List.set_cons_succ, i64_w, i32_w]
                                 rfl
                               refine pure_ (i := 3) (N := some 115) (v := undef) (a' := ?_) #[true, true, true, true, false, false, false, false, false, false, false, false, false, false, false, false, false, false, false, false, false, false, false, false, false, false, false, false, false, false, false, false] rfl rfl (any_of HT_.out (by kernel_rfl)) (fun _ _ _ h => h) (Or.inr ⟨by rfl, rfl⟩) ?_ ?_
                               rotate_left
                               · simp only [Act.put, List.setIfInBounds_toArray, List.set_cons_zero, List.set_cons_succ, i64_w, i32_w]
                                 rfl
                               refine pure_ (i := 4) (N := some 116) (v := undef) (a' := ?_) #[true, true, true, true, true, false, false, false, false, false, false, false, false, false, false, false, false, false, false, false, false, false, false, false, false, false, false, false, false, false, false, false] rfl rfl (any_of HT_.out (by kernel_rfl)) (fun _ _ _ h => h) (Or.inr ⟨by rfl, rfl⟩) ?_ ?_
                               rotate_left
                               · simp only [Act.put, List.setIfInBounds_toArray, List.set_cons_zero, List.set_cons_succ, i64_w, i32_w]
                                 rfl
                               refine pure_ (i := 5) (N := some 117) (v := undef) (a' := ?_) #[true, true, true, true, true, true, false, false, false, false, false, false, false, false, false, false, false, false, false, false, false, false, false, false, false, false, false, false, false, false, false, false] rfl rfl (any_of HT_.out (by kernel_rfl)) (fun _ _ _ h => h) (Or.inr ⟨by rfl, rfl⟩) ?_ ?_
                               rotate_left
                               · simp only [Act.put, List.setIfInBounds_toArray, List.set_cons_zero, List.set_cons_succ, i64_w, i32_w]
                                 rfl
                               refine pure_ (i := 6) (N := some 118) (v := undef) (a' := ?_) #[true, true, true, true, true, true, true, false, false, false, false, false, false, false, false, false, false, false, false, false, false, false, false, false, false, false, false, false, false, false, false, false] rfl rfl (any_of HT_.out (by kernel_rfl)) (fun _ _ _ h => h) (Or.inr ⟨by rfl, rfl⟩) ?_ ?_
                               rotate_left
                               · simp only [Act.put, List.setIfInBounds_toArray, List.set_cons_zero, List.set_cons_succ, i64_w, i32_w]
                                 rfl
                               refine pure_ (i := 7) (N := some 119) (v := undef) (a' := ?_) #[true, true, true, true, true, true, true, true, false, false, false, false, false, false, false, false, false, false, false, false, false, false, false, false, false, false, false, false, false, false, false, false] rfl rfl (any_of HT_.out (by kernel_rfl)) (fun _ _ _ h => h) (Or.inr ⟨by rfl, rfl⟩) ?_ ?_
                               rotate_left
                               · simp only [Act.put, List.setIfInBounds_toArray, List.set_cons_zero, List.set_cons_succ, i64_w, i32_w]
                                 rfl
                               refine pure_ (i := 8) (N := some 120) (v := undef) (a' := ?_) #[true, true, true, true, true, true, true, true, true, false, false, false, false, false, false, false, false, false, false, false, false, false, false, false, false, false, false, false, false, false, false, false] rfl rfl (any_of HT_.out (by kernel_rfl)) (fun _ _ _ h => h) (Or.inr ⟨by rfl, rfl⟩) ?_ ?_
                               rotate_left
                               · simp only [Act.put, List.setIfInBounds_toArray, List.set_cons_zero, List.set_cons_succ, i64_w, i32_w]
                                 rfl
                               refine pure_ (i := 9) (N := some 121) (v := undef) (a' := ?_) #[true, true, true, true, true, true, true, true, true, true, false, false, false, false, false, false, false, false, false, false, false, false, false, false, false, false, false, false, false, false, false, false] rfl rfl (any_of HT_.out (by kernel_rfl)) (fun _ _ _ h => h) (Or.inr ⟨by rfl, rfl⟩) ?_ ?_
                               rotate_left
                               · simp only [Act.put, List.setIfInBounds_toArray, List.set_cons_zero, List.set_cons_succ, i64_w, i32_w]
                                 rfl
                               refine pure_ (i := 10) (N := some 122) (v := undef) (a' := ?_) #[true, true, true, true, true, true, true, true, true, true, true, false, false, false, false, false, false, false, false, false, false, false, false, false, false, false, false, false, false, false, false, false] rfl rfl (any_of HT_.out (by kernel_rfl)) (fun _ _ _ h => h) (Or.inr ⟨by rfl, rfl⟩) ?_ ?_
                               rotate_left
                               · simp only [Act.put, List.setIfInBounds_toArray, List.set_cons_zero, List.set_cons_succ, i64_w, i32_w]
                                 rfl
                               refine pure_ (i := 11) (N := some 123) (v := undef) (a' := ?_) #[true, true, true, true, true, true, true, true, true, true, true, true, false, false, false, false, false, false, false, false, false, false, false, false, false, false, false, false, false, false, false, false] rfl rfl (any_of HT_.out (by kernel_rfl)) (fun _ _ _ h => h) (Or.inr ⟨by rfl, rfl⟩) ?_ ?_
                               rotate_left
                               · simp only [Act.put, List.setIfInBounds_toArray, List.set_cons_zero, List.set_cons_succ, i64_w, i32_w]
                                 rfl
                               refine pure_ (i := 12) (N := some 124) (v := undef) (a' := ?_) #[true, true, true, true, true, true, true, true, true, true, true, true, true, false, false, false, false, false, false, false, false, false, false, false, false, false, false, false, false, false, false, false] rfl rfl (any_of HT_.out (by kernel_rfl)) (fun _ _ _ h => h) (Or.inr ⟨by rfl, rfl⟩) ?_ ?_
                               rotate_left
                               · simp only [Act.put, List.setIfInBounds_toArray, List.set_cons_zero, List.set_cons_succ, i64_w, i32_w]
                                 rfl
                               refine pure_ (i := 13) (N := some 125) (v := undef) (a' := ?_) #[true, true, true, true, true, true, true, true, true, true, true, true, true, true, false, false, false, false, false, false, false, false, false, false, false, false, false, false, false, false, false, false] rfl rfl (any_of HT_.out (by kernel_rfl)) (fun _ _ _ h => h) (Or.inr ⟨by rfl, rfl⟩) ?_ ?_
                               rotate_left
                               · simp only [Act.put, List.setIfInBounds_toArray, List.set_cons_zero, List.set_cons_succ, i64_w, i32_w]
                                 rfl
                               refine pure_ (i := 14) (N := some 126) (v := undef) (a' := ?_) #[true, true, true, true, true, true, true, true, true, true, true, true, true, true, true, false, false, false, false, false, false, false, false, false, false, false, false, false, false, false, false, false] rfl rfl (any_of HT_.out (by kernel_rfl)) (fun _ _ _ h => h) (Or.inr ⟨by rfl, rfl⟩) ?_ ?_
                               rotate_left
                               · simp only [Act.put, List.setIfInBounds_toArray, List.set_cons_zero, List.set_cons_succ, i64_w, i32_w]
                                 rfl
                               refine pure_ (i := 15) (N := some 127) (v := undef) (a' := ?_) #[true, true, true, true, true, true, true, true, true, true, true, true, true, true, true, true, false, false, false, false, false, false, false, false, false, false, false, false, false, false, false, false] rfl rfl (any_of HT_.out (by kernel_rfl)) (fun _ _ _ h => h) (Or.inr ⟨by rfl, rfl⟩) ?_ ?_
                               rotate_left
                               · simp only [Act.put, List.setIfInBounds_toArray, List.set_cons_zero, List.set_cons_succ, i64_w, i32_w]
                                 rfl
                               refine pure_ (i := 16) (N := some 128) (v := undef) (a' := ?_) #[true, true, true, true, true, true, true, true, true, true, true, true, true, true, true, true, true, false, false, false, false, false, false, false, false, false, false, false, false, false, false, false] rfl rfl (any_of HT_.out (by kernel_rfl)) (fun _ _ _ h => h) (Or.inr ⟨by rfl, rfl⟩) ?_ ?_
                               rotate_left
                               · simp only [Act.put, List.setIfInBounds_toArray, List.set_cons_zero, List.set_cons_succ, i64_w, i32_w]
                                 rfl
                               refine pure_ (i := 17) (N := some 129) (v := undef) (a' := ?_) #[true, true, true, true, true, true, true, true, true, true, true, true, true, true, true, true, true, true, false, false, false, false, false, false, false, false, false, false, false, false, false, false] rfl rfl (any_of HT_.out (by kernel_rfl)) (fun _ _ _ h => h) (Or.inr ⟨by rfl, rfl⟩) ?_ ?_
                               rotate_left
                               · simp only [Act.put, List.setIfInBounds_toArray, List.set_cons_zero, List.set_cons_succ, i64_w, i32_w]
                                 rfl
                               refine pure_ (i := 18) (N := some 130) (v := undef) (a' := ?_) #[true, true, true, true, true, true, true, true, true, true, true, true, true, true, true, true, true, true, true, false, false, false, false, false, false, false, false, false, false, false, false, false] rfl rfl (any_of HT_.out (by kernel_rfl)) (fun _ _ _ h => h) (Or.inr ⟨by rfl, rfl⟩) ?_ ?_
                               rotate_left
                               · simp only [Act.put, List.setIfInBounds_toArray, List.set_cons_zero, List.set_cons_succ, i64_w, i32_w]
                                 rfl
                               refine pure_ (i := 19) (N := some 131) (v := undef) (a' := ?_) #[true, true, true, true, true, true, true, true, true, true, true, true, true, true, true, true, true, true, true, true, false, false, false, false, false, false, false, false, false, false, false, false] rfl rfl (any_of HT_.out (by kernel_rfl)) (fun _ _ _ h => h) (Or.inr ⟨by rfl, rfl⟩) ?_ ?_
                               rotate_left
                               · simp only [Act.put, List.setIfInBounds_toArray, List.set_cons_zero, List.set_cons_succ, i64_w, i32_w]
                                 rfl
                               refine pure_ (i := 20) (N := some 132) (v := undef) (a' := ?_) #[true, true, true, true, true, true, true, true, true, true, true, true, true, true, true, true, true, true, true, true, true, false, false, false, false, false, false, false, false, false, false, false] rfl rfl (any_of HT_.out (by kernel_rfl)) (fun _ _ _ h => h) (Or.inr ⟨by rfl, rfl⟩) ?_ ?_
                               rotate_left
                               · simp only [Act.put, List.setIfInBounds_toArray, List.set_cons_zero, List.set_cons_succ, i64_w, i32_w]
                                 rfl
                               refine pure_ (i := 21) (N := some 133) (v := undef) (a' := ?_) #[true, true, true, true, true, true, true, true, true, true, true, true, true, true, true, true, true, true, true, true, true, true, false, false, false, false, false, false, false, false, false, false] rfl rfl (any_of HT_.out (by kernel_rfl)) (fun _ _ _ h => h) (Or.inr ⟨by rfl, rfl⟩) ?_ ?_
                               rotate_left
                               · simp only [Act.put, List.setIfInBounds_toArray, List.set_cons_zero, List.set_cons_succ, i64_w, i32_w]
                                 rfl
                               refine pure_ (i := 22) (N := some 134) (v := undef) (a' := ?_) #[true, true, true, true, true, true, true, true, true, true, true, true, true, true, true, true, true, true, true, true, true, true, true, false, false, false, false, false, false, false, false, false] rfl rfl (any_of HT_.out (by kernel_rfl)) (fun _ _ _ h => h) (Or.inr ⟨by rfl, rfl⟩) ?_ ?_
                               rotate_left
                               · simp only [Act.put, List.setIfInBounds_toArray, List.set_cons_zero, List.set_cons_succ, i64_w, i32_w]
                                 rfl
                               refine pure_ (i := 23) (N := some 135) (v := undef) (a' := ?_) #[true, true, true, true, true, true, true, true, true, true, true, true, true, true, true, true, true, true, true, true, true, true, true, true, false, false, false, false, false, false, false, false] rfl rfl (any_of HT_.out (by kernel_rfl)) (fun _ _ _ h => h) (Or.inr ⟨by rfl, rfl⟩) ?_ ?_
                               rotate_left
                               · simp only [Act.put, List.setIfInBounds_toArray, List.set_cons_zero, List.set_cons_succ, i64_w, i32_w]
                                 rfl
                               refine pure_ (i := 24) (N := some 136) (v := undef) (a' := ?_) #[true, true, true, true, true, true, true, true, true, true, true, true, true, true, true, true, true, true, true, true, true, true, true, true, true, false, false, false, false, false, false, false] rfl rfl (any_of HT_.out (by kernel_rfl)) (fun _ _ _ h => h) (Or.inr ⟨by rfl, rfl⟩) ?_ ?_
                               rotate_left
                               · simp only [Act.put, List.setIfInBounds_toArray, List.set_cons_zero, List.set_cons_succ, i64_w, i32_w]
                                 rfl
                               refine pure_ (i := 25) (N := some 137) (v := undef) (a' := ?_) #[true, true, true, true, true, true, true, true, true, true, true, true, true, true, true, true, true, true, true, true, true, true, true, true, true, true, false, false, false, false, false, false] rfl rfl (any_of HT_.out (by kernel_rfl)) (fun _ _ _ h => h) (Or.inr ⟨by rfl, rfl⟩) ?_ ?_
                               rotate_left
                               · simp only [Act.put, List.setIfInBounds_toArray, List.set_cons_zero, List.set_cons_succ, i64_w, i32_w]
                                 rfl
                               refine pure_ (i := 26) (N := some 138) (v := undef) (a' := ?_) #[true, true, true, true, true, true, true, true, true, true, true, true, true, true, true, true, true, true, true, true, true, true, true, true, true, true, true, false, false, false, false, false] rfl rfl (any_of HT_.out (by kernel_rfl)) (fun _ _ _ h => h) (Or.inr ⟨by rfl, rfl⟩) ?_ ?_
                               rotate_left
                               · simp only [Act.put, List.setIfInBounds_toArray, List.set_cons_zero, List.set_cons_succ, i64_w, i32_w]
                                 rfl
                               refine pure_ (i := 27) (N := some 139) (v := undef) (a' := ?_) #[true, true, true, true, true, true, true, true, true, true, true, true, true, true, true, true, true, true, true, true, true, true, true, true, true, true, true, true, false, false, false, false] rfl rfl (any_of HT_.out (by kernel_rfl)) (fun _ _ _ h => h) (Or.inr ⟨by rfl, rfl⟩) ?_ ?_
                               rotate_left
                               · simp only [Act.put, List.setIfInBounds_toArray, List.set_cons_zero, List.set_cons_succ, i64_w, i32_w]
                                 rfl
                               refine pure_ (i := 28) (N := some 140) (v := undef) (a' := ?_) #[true, true, true, true, true, true, true, true, true, true, true, true, true, true, true, true, true, true, true, true, true, true, true, true, true, true, true, true, true, false, false, false] rfl rfl (any_of HT_.out (by kernel_rfl)) (fun _ _ _ h => h) (Or.inr ⟨by rfl, rfl⟩) ?_ ?_
                               rotate_left
                               · simp only [Act.put, List.setIfInBounds_toArray, List.set_cons_zero, List.set_cons_succ, i64_w, i32_w]
                                 rfl
                               refine pure_ (i := 29) (N := some 141) (v := undef) (a' := ?_) #[true, true, true, true, true, true, true, true, true, true, true, true, true, true, true, true, true, true, true, true, true, true, true, true, true, true, true, true, true, true, false, false] rfl rfl (any_of HT_.out (by kernel_rfl)) (fun _ _ _ h => h) (Or.inr ⟨by rfl, rfl⟩) ?_ ?_
                               rotate_left
                               · simp only [Act.put, List.setIfInBounds_toArray, List.set_cons_zero, List.set_cons_succ, i64_w, i32_w]
                                 rfl
                               refine pure_ (i := 30) (N := some 142) (v := ?_) (a' := ?_) #[true, true, true, true, true, true, true, true, true, true, true, true, true, true, true, true, true, true, true, true, true, true, true, true, true, true, true, true, true, true, true, false] rfl rfl (any_of HT_.out (by kernel_rfl)) (fun _ _ _ h => h) (Or.inl ⟨by rfl, ?_⟩) ?_ ?_; rotate_left; intro w'; go_simp; with_reducible rfl; rotate_left; simp only [Act.put, List.setIfInBounds_toArray, List.set_cons_zero, List.set_cons_succ, i64_w, i32_w]; rfl
                               refine pure_ (i := 31) (N := some 10) (v := ?_) (a' := ?_) #[true, true, true, true, true, true, true, true, true, true, true, true, true, true, true, true, true, true, true, true, true, true, true, true, true, true, true, true, true, true, true, true] rfl rfl (any_of HT_.out (by kernel_rfl)) (fun _ _ _ h => h) (Or.inl ⟨by rfl, ?_⟩) ?_ ?_; rotate_left; intro w'; go_simp; with_reducible rfl; rotate_left; simp only [Act.put, List.setIfInBounds_toArray, List.set_cons_zero, List.set_cons_succ, i64_w, i32_w]; rfl
                               refine done_ (done_of HT_.out (by kernel_rfl)) ?_
                               try go_wp2
                               go_roundg k5
                               case measure => have := HK1.out; have := HK2.out; have := HK3.out; have := HK4.out; have := HK5.out; omega
                               case rel => exact ⟨(true), (wrap64 (x11_5 + 1)), (by first | rfl | (simp; done) | (simp [*]; done)), (by first | rfl | (simp; done) | (simp [*]; done)), H', ⟨by have := HK1.out; have := HK2.out; have := HK3.out; have := HK4.out; have := HK5.out; omega⟩, ⟨by (with_reducible repeat (first | apply Kd.R_alloc | apply Kd.R_drewN | apply Kd.R_drew)); exact HO_7.out⟩, ⟨by (with_reducible repeat (first | apply Kd.R_alloc | apply Kd.R_drewN | apply Kd.R_drew)); exact HO_319000.out⟩, ⟨by (with_reducible repeat (first | apply Kd.R_alloc | apply Kd.R_drewN | apply Kd.R_drew)); exact HO_319001.out⟩, ⟨by (with_reducible repeat (first | apply Kd.R_alloc | apply Kd.R_drewN | apply Kd.R_drew)); exact HO_319002.out⟩, ⟨by (with_reducible repeat (first | refine blk_drewN ?_ _ | refine blk_drew ?_ | refine blk_alloc ?_ _)); exact BK318.out⟩, ⟨by repeat (first | (with_reducible first | exact HB.out | apply below_alloc | apply pw_below_drewN | apply below_drew1 | refine below_set ?_ GE318.out) | exact HB.out)⟩⟩
                             · replace c56 := Bool.eq_false_iff.mpr c56
                               subst c56
                               have H1 : (if 0 ≤ x11_5 then (if 0 ≤ x6_3 then (if x6_3 < (l0.length : Int) then (if (((rd_T43 t309 x11_5).f0.f0) == ((rd_T31 l0 x6_3).f1.f0) && (((rd_T43 t309 x11_5).f0.f1) == ((rd_T31 l0 x6_3).f1.f1) && (((rd_T43 t309 x11_5).f0.f2) == ((rd_T31 l0 x6_3).f1.f2)))) = true then (if 0 ≤ (wrap64 ((t327.length : Int) - 1)) then (if (wrap64 ((t327.length : Int) - 1)) < (t327.length : Int) then (seneschallaw17_PastParts.l4 k5 l0 x6_3 t327 x8_4 (((rd_T43 t309 x11_5).f1) == ((rd_T31 t327 (wrap64 ((t327.length : Int) - 1))).f2)) (wrap64 (x11_5 + 1)) t309 t312 t315) else (none)) else (none)) else (seneschallaw17_PastParts.l4 k5 l0 x6_3 t327 x8_4 false (wrap64 (x11_5 + 1)) t309 t312 t315)) else (none)) else (none)) else (none)) = some r := by rw [if_neg (show ¬ (false = true) by decide)] at H; exact H
                               clear H
                               have H := H1
                               clear H1
                               by_cases c59 : 0 ≤ x11_5
                               · rw [if_pos c59] at H
                                 have c59b0 : decide (0 ≤ x11_5) = true := decide_eq_true c59
                                 clear c59
                                 by_cases c60 : 0 ≤ x6_3
                                 · rw [if_pos c60] at H
                                   have c60b0 : decide (0 ≤ x6_3) = true := decide_eq_true c60
                                   clear c60
                                   by_cases c61 : x6_3 < (l0.length : Int)
                                   · rw [if_pos c61] at H
                                     have c61b0 : decide (x6_3 < (l0.length : Int)) = true := decide_eq_true c61
                                     clear c61
                                     by_cases c62 : (((rd_T43 t309 x11_5).f0.f0) == ((rd_T31 l0 x6_3).f1.f0) && (((rd_T43 t309 x11_5).f0.f1) == ((rd_T31 l0 x6_3).f1.f1) && (((rd_T43 t309 x11_5).f0.f2) == ((rd_T31 l0 x6_3).f1.f2)))) = true
                                     · rw [if_pos c62] at H
                                       have c62b0 : (((rd_T43 t309 x11_5).f0.f0) == ((rd_T31 l0 x6_3).f1.f0) && (((rd_T43 t309 x11_5).f0.f1) == ((rd_T31 l0 x6_3).f1.f1) && (((rd_T43 t309 x11_5).f0.f2) == ((rd_T31 l0 x6_3).f1.f2)))) = true := c62
                                       (try (have c62b1 : decide (((rd_T43 t309 x11_5).f0.f0) = ((rd_T31 l0 x6_3).f1.f0) && (((rd_T43 t309 x11_5).f0.f1) == ((rd_T31 l0 x6_3).f1.f1) && (((rd_T43 t309 x11_5).f0.f2) == ((rd_T31 l0 x6_3).f1.f2)))) = true := by simpa using c62))
                                       (try (have c62b2 : (((rd_T43 t309 x11_5).f0.f0) == ((rd_T31 l0 x6_3).f1.f0) && (((rd_T43 t309 x11_5).f0.f1) == ((rd_T31 l0 x6_3).f1.f1) && (((rd_T43 t309 x11_5).f0.f2) == ((rd_T31 l0 x6_3).f1.f2)))) = true := by simpa using c62))
                                       clear c62
                                       obtain ⟨ji63, hji63⟩ : ∃ j_ : Int, (wrap64 ((t327.length : Int) - 1)) = j_ := ⟨_, rfl⟩
                                       replace H : (if 0 ≤ (ji63) then (if (ji63) < (t327.length : Int) then (seneschallaw17_PastParts.l4 k5 l0 x6_3 t327 x8_4 (((rd_T43 t309 x11_5).f1) == ((rd_T31 t327 (ji63)).f2)) (wrap64 (x11_5 + 1)) t309 t312 t315) else (none)) else (none)) = some r := by first | (rw [hji63] at H; exact H) | (simp only [hji63] at H ⊢; exact H)
                                       have hji63w : (IntKind.i64.wrap ((t327.length : Int) - 1)) = ji63 := (i64_w _).trans hji63
                                       by_cases c64 : 0 ≤ (ji63)
                                       · rw [if_pos c64] at H
                                         have c64b0 : decide (0 ≤ (ji63)) = true := decide_eq_true c64
                                         clear c64
                                         by_cases c65 : (ji63) < (t327.length : Int)
                                         · rw [if_pos c65] at H
                                           have c65b0 : decide ((ji63) < (t327.length : Int)) = true := decide_eq_true c65
                                           clear c65
                                           have H' := Aside0.mk H
                                           clear H
                                           have hcz66_0 : wr.cell? ⟨gb318, 0, none⟩ = some (.slice Ao11 t309.length co11) := (blk_cell BK318.out 0).trans rfl
                                           have hcz66_1 : wr.cell? ⟨gb318, 1, none⟩ = some (.slice Ao13 t312.length co13) := (blk_cell BK318.out 1).trans rfl
                                           have hcz66_2 : wr.cell? ⟨gb318, 2, none⟩ = some (.slice Ao14 t315.length co14) := (blk_cell BK318.out 2).trans rfl
                                           have hfz66_0 := blk_frozen BK318.out 0
                                           have hfz66_1 := blk_frozen BK318.out 1
                                           have hfz66_2 := blk_frozen BK318.out 2
                                           try go_wp2
                                           have n0_ := Aside0.mk (Kd.R_drew HO_7.out)
                                           have n1_ := Aside0.mk (Kd.R_drew HO_319000.out)
                                           have n2_ := Aside0.mk (Kd.R_drew HO_319001.out)
                                           have n3_ := Aside0.mk (Kd.R_drew HO_319002.out)
                                           have n4_ := Aside0.mk (blk_drew BK318.out)
                                           have n5_ := Aside0.mk (below_drew1 HB.out)
                                           clear HO_7
                                           clear HO_319000
                                           clear HO_319001
                                           clear HO_319002
                                           clear BK318
                                           clear HB
                                           have HO_7 := n0_
                                           have HO_319000 := n1_
                                           have HO_319001 := n2_
                                           have HO_319002 := n3_
                                           have BK318 := n4_
                                           have HB := n5_
                                           clear n0_ n1_ n2_ n3_ n4_ n5_
                                           have p332 : 0 ≤ (x11_5 : Int) := of_decide_eq_true (by first | (with_reducible assumption) | assumption)
                                           have q332 : x11_5 < (t309.length : Int) := of_decide_eq_true (by first | (with_reducible assumption) | assumption)
                                           obtain ⟨ad332, e332, hx332_0, hx332_1, hx332_2, hx332_3⟩ := at_T43 (Kd.R_reads' HO_319000.out).2.2 x11_5 p332 q332
                                           cases e332
                                           replace p332 := eq_true p332
                                           replace q332 := eq_true q332
                                           have p333 : 0 ≤ (x6_3 : Int) := of_decide_eq_true (by first | (with_reducible assumption) | assumption)
                                           have q333 : x6_3 < (l0.length : Int) := of_decide_eq_true (by first | (with_reducible assumption) | assumption)
                                           obtain ⟨ad333, e333, hx333_0, hx333_1, hx333_2, hx333_3, hx333_4, hx333_5, hx333_6, hx333_7, hx333_8, hx333_9, hx333_10, hx333_11, hx333_12⟩ := at_T31 HR0.out x6_3 p333 q333
                                           have hw333_12 := hx333_12
                                           have hw333_11 := hx333_11
                                           have hw333_10 := hx333_10
                                           have hw333_9 := hx333_9
                                           have hw333_8 := hx333_8
                                           have hw333_7 := hx333_7
                                           have hw333_6 := hx333_6
                                           have hw333_5 := hx333_5
                                           have hw333_4 := hx333_4
                                           have hw333_3 := hx333_3
                                           have hw333_2 := hx333_2
                                           have hw333_1 := hx333_1
                                           have hw333_0 := hx333_0
                                           obtain rfl : ad324 = ad333 := (by injection e333)
                                           replace hx333_0 := (HB.out.cell (World.block_lt_of_cell? w _ hx333_0)).trans hx333_0
                                           replace hx333_1 := (HB.out.cell (World.block_lt_of_cell? w _ hx333_1)).trans hx333_1
                                           replace hx333_2 := (HB.out.cell (World.block_lt_of_cell? w _ hx333_2)).trans hx333_2
                                           replace hx333_3 := (HB.out.cell (World.block_lt_of_cell? w _ hx333_3)).trans hx333_3
                                           replace hx333_4 := (HB.out.cell (World.block_lt_of_cell? w _ hx333_4)).trans hx333_4
                                           replace hx333_5 := (HB.out.cell (World.block_lt_of_cell? w _ hx333_5)).trans hx333_5
                                           replace hx333_6 := (HB.out.cell (World.block_lt_of_cell? w _ hx333_6)).trans hx333_6
                                           replace hx333_7 := (HB.out.cell (World.block_lt_of_cell? w _ hx333_7)).trans hx333_7
                                           replace hx333_8 := (HB.out.cell (World.block_lt_of_cell? w _ hx333_8)).trans hx333_8
                                           replace hx333_9 := (HB.out.cell (World.block_lt_of_cell? w _ hx333_9)).trans hx333_9
                                           replace hx333_10 := (HB.out.cell (World.block_lt_of_cell? w _ hx333_10)).trans hx333_10
                                           replace hx333_11 := (HB.out.cell (World.block_lt_of_cell? w _ hx333_11)).trans hx333_11
                                           replace hx333_12 := (HB.out.cell (World.block_lt_of_cell? w _ hx333_12)).trans hx333_12
                                           replace p333 := eq_true p333
                                           replace q333 := eq_true q333
                                           have p334 : 0 ≤ (x11_5 : Int) := of_decide_eq_true (by first | (with_reducible assumption) | assumption)
                                           have q334 : x11_5 < (t309.length : Int) := of_decide_eq_true (by first | (with_reducible assumption) | assumption)
                                           obtain ⟨ad334, e334, hx334_0, hx334_1, hx334_2, hx334_3⟩ := at_T43 (Kd.R_reads' HO_319000.out).2.2 x11_5 p334 q334
                                           obtain rfl : ad332 = ad334 := (by injection e334)
                                           replace p334 := eq_true p334
                                           replace q334 := eq_true q334
                                           have p335 : 0 ≤ ((ji63) : Int) := of_decide_eq_true (by first | (with_reducible assumption) | assumption)
                                           have q335 : (ji63) < (t327.length : Int) := of_decide_eq_true (by first | (with_reducible assumption) | assumption)
                                           obtain ⟨ad335, e335, hx335_0, hx335_1, hx335_2, hx335_3, hx335_4, hx335_5, hx335_6, hx335_7, hx335_8, hx335_9, hx335_10, hx335_11, hx335_12⟩ := at_T31 (Kd.R_reads' HO_7.out).2.2 (ji63) p335 q335
                                           cases e335
                                           replace p335 := eq_true p335
                                           replace q335 := eq_true q335
                                           refine start_ (n := 32) (S := fun w' => w'.cell? ⟨gb318, 0, none⟩ = some (.slice (some ad332) t309.length co11) ∧ w'.cell? ⟨gb318, 1, none⟩ = some (.slice Ao13 t312.length co13) ∧ w'.cell? ⟨gb318, 2, none⟩ = some (.slice Ao14 t315.length co14) ∧ w'.cell? (ad332.add ((x11_5).toNat * 4)) = some (.int .i64 ((rd_T43 t309 x11_5).f0.f0)) ∧ w'.cell? ⟨(ad332.add ((x11_5).toNat * 4)).block, (ad332.add ((x11_5).toNat * 4)).off + 1, none⟩ = some (.int .i64 ((rd_T43 t309 x11_5).f0.f1)) ∧ w'.cell? ⟨(ad332.add ((x11_5).toNat * 4)).block, (ad332.add ((x11_5).toNat * 4)).off + 2, none⟩ = some (.int .i64 ((rd_T43 t309 x11_5).f0.f2)) ∧ w'.cell? ⟨(ad332.add ((x11_5).toNat * 4)).block, (ad332.add ((x11_5).toNat * 4)).off + 3, none⟩ = some (.int .i64 ((rd_T43 t309 x11_5).f1)) ∧ w'.cell? (ad324.add ((x6_3).toNat * 13)) = some (.int .i64 ((rd_T31 l0 x6_3).f0)) ∧ w'.cell? ⟨(ad324.add ((x6_3).toNat * 13)).block, (ad324.add ((x6_3).toNat * 13)).off + 1, none⟩ = some (.int .i64 ((rd_T31 l0 x6_3).f1.f0)) ∧ w'.cell? ⟨(ad324.add ((x6_3).toNat * 13)).block, (ad324.add ((x6_3).toNat * 13)).off + 2, none⟩ = some (.int .i64 ((rd_T31 l0 x6_3).f1.f1)) ∧ w'.cell? ⟨(ad324.add ((x6_3).toNat * 13)).block, (ad324.add ((x6_3).toNat * 13)).off + 3, none⟩ = some (.int .i64 ((rd_T31 l0 x6_3).f1.f2)) ∧ w'.cell? ⟨(ad324.add ((x6_3).toNat * 13)).block, (ad324.add ((x6_3).toNat * 13)).off + 4, none⟩ = some (.int .i64 ((rd_T31 l0 x6_3).f2)) ∧ w'.cell? ⟨(ad324.add ((x6_3).toNat * 13)).block, (ad324.add ((x6_3).toNat * 13)).off + 5, none⟩ = some (.int .i64 ((rd_T31 l0 x6_3).f3)) ∧ w'.cell? ⟨(ad324.add ((x6_3).toNat * 13)).block, (ad324.add ((x6_3).toNat * 13)).off + 6, none⟩ = some (.int .i64 ((rd_T31 l0 x6_3).f4)) ∧ w'.cell? ⟨(ad324.add ((x6_3).toNat * 13)).block, (ad324.add ((x6_3).toNat * 13)).off + 7, none⟩ = some (.int .i64 ((rd_T31 l0 x6_3).f5)) ∧ w'.cell? ⟨(ad324.add ((x6_3).toNat * 13)).block, (ad324.add ((x6_3).toNat * 13)).off + 8, none⟩ = some (.bool ((rd_T31 l0 x6_3).f6.f0)) ∧ w'.cell? ⟨(ad324.add ((x6_3).toNat * 13)).block, (ad324.add ((x6_3).toNat * 13)).off + 9, none⟩ = some (.string ((rd_T31 l0 x6_3).f6.f1)) ∧ w'.cell? ⟨(ad324.add ((x6_3).toNat * 13)).block, (ad324.add ((x6_3).toNat * 13)).off + 10, none⟩ = some (.bool ((rd_T31 l0 x6_3).f7.f0)) ∧ w'.cell? ⟨(ad324.add ((x6_3).toNat * 13)).block, (ad324.add ((x6_3).toNat * 13)).off + 11, none⟩ = some (.string ((rd_T31 l0 x6_3).f7.f1)) ∧ w'.cell? ⟨(ad324.add ((x6_3).toNat * 13)).block, (ad324.add ((x6_3).toNat * 13)).off + 12, none⟩ = some (.int .i64 ((rd_T31 l0 x6_3).f8)) ∧ w'.cell? (ad332.add ((x11_5).toNat * 4)) = some (.int .i64 ((rd_T43 t309 x11_5).f0.f0)) ∧ w'.cell? ⟨(ad332.add ((x11_5).toNat * 4)).block, (ad332.add ((x11_5).toNat * 4)).off + 1, none⟩ = some (.int .i64 ((rd_T43 t309 x11_5).f0.f1)) ∧ w'.cell? ⟨(ad332.add ((x11_5).toNat * 4)).block, (ad332.add ((x11_5).toNat * 4)).off + 2, none⟩ = some (.int .i64 ((rd_T43 t309 x11_5).f0.f2)) ∧ w'.cell? ⟨(ad332.add ((x11_5).toNat * 4)).block, (ad332.add ((x11_5).toNat * 4)).off + 3, none⟩ = some (.int .i64 ((rd_T43 t309 x11_5).f1)) ∧ w'.cell? (ad335.add (((ji63)).toNat * 13)) = some (.int .i64 ((rd_T31 t327 (ji63)).f0)) ∧ w'.cell? ⟨(ad335.add (((ji63)).toNat * 13)).block, (ad335.add (((ji63)).toNat * 13)).off + 1, none⟩ = some (.int .i64 ((rd_T31 t327 (ji63)).f1.f0)) ∧ w'.cell? ⟨(ad335.add (((ji63)).toNat * 13)).block, (ad335.add (((ji63)).toNat * 13)).off + 2, none⟩ = some (.int .i64 ((rd_T31 t327 (ji63)).f1.f1)) ∧ w'.cell? ⟨(ad335.add (((ji63)).toNat * 13)).block, (ad335.add (((ji63)).toNat * 13)).off + 3, none⟩ = some (.int .i64 ((rd_T31 t327 (ji63)).f1.f2)) ∧ w'.cell? ⟨(ad335.add (((ji63)).toNat * 13)).block, (ad335.add (((ji63)).toNat * 13)).off + 4, none⟩ = some (.int .i64 ((rd_T31 t327 (ji63)).f2)) ∧ w'.cell? ⟨(ad335.add (((ji63)).toNat * 13)).block, (ad335.add (((ji63)).toNat * 13)).off + 5, none⟩ = some (.int .i64 ((rd_T31 t327 (ji63)).f3)) ∧ w'.cell? ⟨(ad335.add (((ji63)).toNat * 13)).block, (ad335.add (((ji63)).toNat * 13)).off + 6, none⟩ = some (.int .i64 ((rd_T31 t327 (ji63)).f4)) ∧ w'.cell? ⟨(ad335.add (((ji63)).toNat * 13)).block, (ad335.add (((ji63)).toNat * 13)).off + 7, none⟩ = some (.int .i64 ((rd_T31 t327 (ji63)).f5)) ∧ w'.cell? ⟨(ad335.add (((ji63)).toNat * 13)).block, (ad335.add (((ji63)).toNat * 13)).off + 8, none⟩ = some (.bool ((rd_T31 t327 (ji63)).f6.f0)) ∧ w'.cell? ⟨(ad335.add (((ji63)).toNat * 13)).block, (ad335.add (((ji63)).toNat * 13)).off + 9, none⟩ = some (.string ((rd_T31 t327 (ji63)).f6.f1)) ∧ w'.cell? ⟨(ad335.add (((ji63)).toNat * 13)).block, (ad335.add (((ji63)).toNat * 13)).off + 10, none⟩ = some (.bool ((rd_T31 t327 (ji63)).f7.f0)) ∧ w'.cell? ⟨(ad335.add (((ji63)).toNat * 13)).block, (ad335.add (((ji63)).toNat * 13)).off + 11, none⟩ = some (.string ((rd_T31 t327 (ji63)).f7.f1)) ∧ w'.cell? ⟨(ad335.add (((ji63)).toNat * 13)).block, (ad335.add (((ji63)).toNat * 13)).off + 12, none⟩ = some (.int .i64 ((rd_T31 t327 (ji63)).f8))) (ds := []) #[false, false, false, false, false, false, false, false, false, false, false, false, false, false, false, false, false, false, false, false, false, false, false, false, false, false, false, false, false, false, false, false] (by kernel_rfl) rfl rfl ⟨(blk_cell BK318.out 0).trans rfl, (blk_cell BK318.out 1).trans rfl, (blk_cell BK318.out 2).trans rfl, hx332_0, hx332_1, hx332_2, hx332_3, ((HB.out.cell (World.block_lt_of_cell? w _ hw333_0)).trans hw333_0), ((HB.out.cell (World.block_lt_of_cell? w _ hw333_1)).trans hw333_1), ((HB.out.cell (World.block_lt_of_cell? w _ hw333_2)).trans hw333_2), ((HB.out.cell (World.block_lt_of_cell? w _ hw333_3)).trans hw333_3), ((HB.out.cell (World.block_lt_of_cell? w _ hw333_4)).trans hw333_4), ((HB.out.cell (World.block_lt_of_cell? w _ hw333_5)).trans hw333_5), ((HB.out.cell (World.block_lt_of_cell? w _ hw333_6)).trans hw333_6), ((HB.out.cell (World.block_lt_of_cell? w _ hw333_7)).trans hw333_7), ((HB.out.cell (World.block_lt_of_cell? w _ hw333_8)).trans hw333_8), ((HB.out.cell (World.block_lt_of_cell? w _ hw333_9)).trans hw333_9), ((HB.out.cell (World.block_lt_of_cell? w _ hw333_10)).trans hw333_10), ((HB.out.cell (World.block_lt_of_cell? w _ hw333_11)).trans hw333_11), ((HB.out.cell (World.block_lt_of_cell? w _ hw333_12)).trans hw333_12), hx334_0, hx334_1, hx334_2, hx334_3, hx335_0, hx335_1, hx335_2, hx335_3, hx335_4, hx335_5, hx335_6, hx335_7, hx335_8, hx335_9, hx335_10, hx335_11, hx335_12⟩ (fun hHeld => ?_); refine with_tabW seneschallaw17_PastParts.tab30 seneschallaw17_PastParts.bits30 (fun HT_ HW_ => ?_)
                                           generalize wr.drew = w67 at HO_7 HO_319000 HO_319001 HO_319002 BK318 HB hx332_0 hx332_1 hx332_2 hx332_3 hx333_0 hx333_1 hx333_10 hx333_11 hx333_12 hx333_2 hx333_3 hx333_4 hx333_5 hx333_6 hx333_7 hx333_8 hx333_9 hx334_0 hx334_1 hx334_2 hx334_3 hx335_0 hx335_1 hx335_10 hx335_11 hx335_12 hx335_2 hx335_3 hx335_4 hx335_5 hx335_6 hx335_7 hx335_8 hx335_9 hHeld ⊢
                                           refine pure_ (i := 0) (N := some 112) (v := ?_) (a' := ?_) #[true, false, false, false, false, false, false, false, false, false, false, false, false, false, false, false, false, false, false, false, false, false, false, false, false, false, false, false, false, false, false, false] rfl rfl (any_of HT_.out (by kernel_rfl)) (fun _ _ _ h => h) (Or.inl ⟨by rfl, ?_⟩) ?_ ?_; rotate_left; intro w'; go_simp; with_reducible rfl; rotate_left; simp only [Act.put, List.setIfInBounds_toArray, List.set_cons_zero, List.set_cons_succ, i64_w, i32_w]; rfl
                                           refine pure_ (i := 1) (N := some 113) (v := ?_) (a' := ?_) #[true, true, false, false, false, false, false, false, false, false, false, false, false, false, false, false, false, false, false, false, false, false, false, false, false, false, false, false, false, false, false, false] rfl rfl (any_of HT_.out (by kernel_rfl)) (fun _ _ _ h => h) (Or.inl ⟨by rfl, ?_⟩) ?_ ?_; rotate_left; intro w'; go_simp; with_reducible rfl; rotate_left; simp only [Act.put, List.setIfInBounds_toArray, List.set_cons_zero, List.set_cons_succ, i64_w, i32_w]; rfl
                                           refine pure_ (i := 2) (N := some 114) (v := ?_) (a' := ?_) #[true, true, true, false, false, false, false, false, false, false, false, false, false, false, false, false, false, false, false, false, false, false, false, false, false, false, false, false, false, false, false, false] rfl rfl (any_of HT_.out (by kernel_rfl)) (fun _ _ _ h => h) (Or.inl ⟨by rfl, ?_⟩) ?_ ?_; rotate_left; intro w'; go_simp; with_reducible rfl; rotate_left; simp only [Act.put, List.setIfInBounds_toArray, List.set_cons_zero, List.set_cons_succ, i64_w, i32_w]; rfl
                                           refine pure_ (i := 4) (N := some 116) (v := ?_) (a' := ?_) #[true, true, true, false, true, false, false, false, false, false, false, false, false, false, false, false, false, false, false, false, false, false, false, false, false, false, false, false, false, false, false, false] rfl rfl (any_of HT_.out (by kernel_rfl)) (fun _ _ _ h => h) (Or.inl ⟨by rfl, ?_⟩) ?_ ?_; rotate_left; intro w'; go_simp; with_reducible rfl; rotate_left; simp only [Act.put, List.setIfInBounds_toArray, List.set_cons_zero, List.set_cons_succ, i64_w, i32_w]; rfl
                                           refine pure_ (i := 8) (N := some 120) (v := ?_) (a' := ?_) #[true, true, true, false, true, false, false, false, true, false, false, false, false, false, false, false, false, false, false, false, false, false, false, false, false, false, false, false, false, false, false, false] rfl rfl (any_of HT_.out (by kernel_rfl)) (fun _ _ _ h => h) (Or.inl ⟨by rfl, ?_⟩) ?_ ?_; rotate_left; intro w'; go_simp; with_reducible rfl; rotate_left; simp only [Act.put, List.setIfInBounds_toArray, List.set_cons_zero, List.set_cons_succ, i64_w, i32_w]; rfl
                                           refine pure_ (i := 9) (N := some 121) (v := ?_) (a' := ?_) #[true, true, true, false, true, false, false, false, true, true, false, false, false, false, false, false, false, false, false, false, false, false, false, false, false, false, false, false, false, false, false, false] rfl rfl (any_of HT_.out (by kernel_rfl)) (fun _ _ _ h => h) (Or.inl ⟨by rfl, ?_⟩) ?_ ?_; rotate_left; intro w'; go_simp; with_reducible rfl; rotate_left; simp only [Act.put, List.setIfInBounds_toArray, List.set_cons_zero, List.set_cons_succ, i64_w, i32_w]; rfl
                                           refine pure_ (i := 10) (N := some 122) (v := ?_) (a' := ?_) #[true, true, true, false, true, false, false, false, true, true, true, false, false, false, false, false, false, false, false, false, false, false, false, false, false, false, false, false, false, false, false, false] rfl rfl (any_of HT_.out (by kernel_rfl)) (fun _ _ _ h => h) (Or.inl ⟨by rfl, ?_⟩) ?_ ?_; rotate_left; intro w'; go_simp; with_reducible rfl; rotate_left; simp only [Act.put, List.setIfInBounds_toArray, List.set_cons_zero, List.set_cons_succ, i64_w, i32_w]; rfl
                                           refine pure_ (i := 11) (N := some 123) (v := ?_) (a' := ?_) #[true, true, true, false, true, false, false, false, true, true, true, true, false, false, false, false, false, false, false, false, false, false, false, false, false, false, false, false, false, false, false, false] rfl rfl (any_of HT_.out (by kernel_rfl)) (fun _ _ _ h => h) (Or.inl ⟨by rfl, ?_⟩) ?_ ?_; rotate_left; intro w'; go_simp; with_reducible rfl; rotate_left; simp only [Act.put, List.setIfInBounds_toArray, List.set_cons_zero, List.set_cons_succ, i64_w, i32_w]; rfl
                                           refine take_ (i := 3) (N := some 115) (v := ?_) (a' := ?_) #[true, true, true, true, true, false, false, false, true, true, true, true, false, false, false, false, false, false, false, false, false, false, false, false, false, false, false, false, false, false, false, false] rfl rfl (take_ofW HT_.out HW_.out (by kernel_rfl)) (fun _ _ _ h => h) (Or.inl ⟨by rfl, ?_⟩) hHeld ?_ ?_; rotate_left; rintro w' ⟨s0, s1, s2, s3, s4, s5, s6, s7, s8, s9, s10, s11, s12, s13, s14, s15, s16, s17, s18, s19, s20, s21, s22, s23, s24, s25, s26, s27, s28, s29, s30, s31, s32, s33, s34, s35, s36⟩; go_simp; with_reducible rfl; rotate_left; simp only [Act.put, List.setIfInBounds_toArray, List.set_cons_zero, List.set_cons_succ, i64_w, i32_w]; rfl
                                           refine pure_ (i := 5) (N := some 117) (v := ?_) (a' := ?_) #[true, true, true, true, true, true, false, false, true, true, true, true, false, false, false, false, false, false, false, false, false, false, false, false, false, false, false, false, false, false, false, false] rfl rfl (any_of HT_.out (by kernel_rfl)) (fun _ _ _ h => h) (Or.inl ⟨by rfl, ?_⟩) ?_ ?_; rotate_left; intro w'; go_simp; with_reducible rfl; rotate_left; simp only [Act.put, List.setIfInBounds_toArray, List.set_cons_zero, List.set_cons_succ, i64_w, i32_w]; rfl
                                           refine pure_ (i := 6) (N := some 118) (v := ?_) (a' := ?_) #[true, true, true, true, true, true, true, false, true, true, true, true, false, false, false, false, false, false, false, false, false, false, false, false, false, false, false, false, false, false, false, false] rfl rfl (any_of HT_.out (by kernel_rfl)) (fun _ _ _ h => h) (Or.inl ⟨by rfl, ?_⟩) ?_ ?_; rotate_left; intro w'; go_simp; with_reducible rfl; rotate_left; simp only [Act.put, List.setIfInBounds_toArray, List.set_cons_zero, List.set_cons_succ, i64_w, i32_w]; rfl
                                           refine take_ (i := 7) (N := some 119) (v := ?_) (a' := ?_) #[true, true, true, true, true, true, true, true, true, true, true, true, false, false, false, false, false, false, false, false, false, false, false, false, false, false, false, false, false, false, false, false] rfl rfl (take_ofW HT_.out HW_.out (by kernel_rfl)) (fun _ _ _ h => h) (Or.inl ⟨by rfl, ?_⟩) hHeld ?_ ?_; rotate_left; rintro w' ⟨s0, s1, s2, s3, s4, s5, s6, s7, s8, s9, s10, s11, s12, s13, s14, s15, s16, s17, s18, s19, s20, s21, s22, s23, s24, s25, s26, s27, s28, s29, s30, s31, s32, s33, s34, s35, s36⟩; go_simp; with_reducible rfl; rotate_left; simp only [Act.put, List.setIfInBounds_toArray, List.set_cons_zero, List.set_cons_succ, i64_w, i32_w]; rfl
                                           refine take_ (i := 12) (N := some 124) (v := ?_) (a' := ?_) #[true, true, true, true, true, true, true, true, true, true, true, true, true, false, false, false, false, false, false, false, false, false, false, false, false, false, false, false, false, false, false, false] rfl rfl (take_ofW HT_.out HW_.out (by kernel_rfl)) (fun _ _ _ h => h) (Or.inl ⟨by rfl, ?_⟩) hHeld ?_ ?_; rotate_left; rintro w' ⟨s0, s1, s2, s3, s4, s5, s6, s7, s8, s9, s10, s11, s12, s13, s14, s15, s16, s17, s18, s19, s20, s21, s22, s23, s24, s25, s26, s27, s28, s29, s30, s31, s32, s33, s34, s35, s36⟩; go_simp; with_reducible rfl; rotate_left; simp only [Act.put, List.setIfInBounds_toArray, List.set_cons_zero, List.set_cons_succ, i64_w, i32_w]; rfl
                                           refine pure_ (i := 13) (N := some 125) (v := ?_) (a' := ?_) #[true, true, true, true, true, true, true, true, true, true, true, true, true, true, false, false, false, false, false, false, false, false, false, false, false, false, false, false, false, false, false, false] rfl rfl (any_of HT_.out (by kernel_rfl)) (fun _ _ _ h => h) (Or.inl ⟨by rfl, ?_⟩) ?_ ?_; rotate_left; intro w'; go_simp; with_reducible rfl; rotate_left; simp only [Act.put, List.setIfInBounds_toArray, List.set_cons_zero, List.set_cons_succ, i64_w, i32_w]; rfl
                                           refine pure_ (i := 14) (N := some 126) (v := ?_) (a' := ?_) #[true, true, true, true, true, true, true, true, true, true, true, true, true, true, true, false, false, false, false, false, false, false, false, false, false, false, false, false, false, false, false, false] rfl rfl (any_of HT_.out (by kernel_rfl)) (fun _ _ _ h => h) (Or.inl ⟨by rfl, ?_⟩) ?_ ?_; rotate_left; intro w'; go_simp; with_reducible rfl; rotate_left; simp only [Act.put, List.setIfInBounds_toArray, List.set_cons_zero, List.set_cons_succ, i64_w, i32_w]; rfl
                                           refine pure_ (i := 15) (N := some 127) (v := ?_) (a' := ?_) #[true, true, true, true, true, true, true, true, true, true, true, true, true, true, true, true, false, false, false, false, false, false, false, false, false, false, false, false, false, false, false, false] rfl rfl (any_of HT_.out (by kernel_rfl)) (fun _ _ _ h => h) (Or.inl ⟨by rfl, ?_⟩) ?_ ?_; rotate_left; intro w'; go_simp; with_reducible rfl; rotate_left; simp only [Act.put, List.setIfInBounds_toArray, List.set_cons_zero, List.set_cons_succ, i64_w, i32_w]; rfl
                                           refine pure_ (i := 17) (N := some 129) (v := ?_) (a' := ?_) #[true, true, true, true, true, true, true, true, true, true, true, true, true, true, true, true, false, true, false, false, false, false, false, false, false, false, false, false, false, false, false, false] rfl rfl (any_of HT_.out (by kernel_rfl)) (fun _ _ _ h => h) (Or.inl ⟨by rfl, ?_⟩) ?_ ?_; rotate_left; intro w'; go_simp; with_reducible rfl; rotate_left; simp only [Act.put, List.setIfInBounds_toArray, List.set_cons_zero, List.set_cons_succ, i64_w, i32_w]; rfl
                                           refine pure_ (i := 21) (N := some 133) (v := ?_) (a' := ?_) #[true, true, true, true, true, true, true, true, true, true, true, true, true, true, true, true, false, true, false, false, false, true, false, false, false, false, false, false, false, false, false, false] rfl rfl (any_of HT_.out (by kernel_rfl)) (fun _ _ _ h => h) (Or.inl ⟨by rfl, ?_⟩) ?_ ?_; rotate_left; intro w'; go_simp; with_reducible rfl; rotate_left; simp only [Act.put, List.setIfInBounds_toArray, List.set_cons_zero, List.set_cons_succ, i64_w, i32_w]; rfl
                                           refine pure_ (i := 22) (N := some 134) (v := ?_) (a' := ?_) #[true, true, true, true, true, true, true, true, true, true, true, true, true, true, true, true, false, true, false, false, false, true, true, false, false, false, false, false, false, false, false, false] rfl rfl (any_of HT_.out (by kernel_rfl)) (fun _ _ _ h => h) (Or.inl ⟨by rfl, ?_⟩) ?_ ?_; rotate_left; intro w'; go_simp; with_reducible rfl; rotate_left; simp only [Act.put, List.setIfInBounds_toArray, List.set_cons_zero, List.set_cons_succ, i64_w, i32_w]; rfl
                                           refine pure_ (i := 23) (N := some 135) (v := ?_) (a' := ?_) #[true, true, true, true, true, true, true, true, true, true, true, true, true, true, true, true, false, true, false, false, false, true, true, true, false, false, false, false, false, false, false, false] rfl rfl (any_of HT_.out (by kernel_rfl)) (fun _ _ _ h => h) (Or.inl ⟨by rfl, ?_⟩) ?_ ?_; rotate_left; intro w'; go_simp; with_reducible rfl; rotate_left; simp only [Act.put, List.setIfInBounds_toArray, List.set_cons_zero, List.set_cons_succ, i64_w, i32_w]; rfl
                                           refine pure_ (i := 24) (N := some 136) (v := ?_) (a' := ?_) #[true, true, true, true, true, true, true, true, true, true, true, true, true, true, true, true, false, true, false, false, false, true, true, true, true, false, false, false, false, false, false, false] rfl rfl (any_of HT_.out (by kernel_rfl)) (fun _ _ _ h => h) (Or.inl ⟨by rfl, ?_⟩) ?_ ?_; rotate_left; intro w'; go_simp; with_reducible rfl; rotate_left; simp only [Act.put, List.setIfInBounds_toArray, List.set_cons_zero, List.set_cons_succ, i64_w, i32_w]; rfl
                                           refine pure_ (i := 25) (N := some 137) (v := ?_) (a' := ?_) #[true, true, true, true, true, true, true, true, true, true, true, true, true, true, true, true, false, true, false, false, false, true, true, true, true, true, false, false, false, false, false, false] rfl rfl (any_of HT_.out (by kernel_rfl)) (fun _ _ _ h => h) (Or.inl ⟨by rfl, ?_⟩) ?_ ?_; rotate_left; intro w'; go_simp; with_reducible rfl; rotate_left; simp only [Act.put, List.setIfInBounds_toArray, List.set_cons_zero, List.set_cons_succ, i64_w, i32_w]; rfl
                                           refine pure_ (i := 26) (N := some 138) (v := ?_) (a' := ?_) #[true, true, true, true, true, true, true, true, true, true, true, true, true, true, true, true, false, true, false, false, false, true, true, true, true, true, true, false, false, false, false, false] rfl rfl (any_of HT_.out (by kernel_rfl)) (fun _ _ _ h => h) (Or.inl ⟨by rfl, ?_⟩) ?_ ?_; rotate_left; intro w'; go_simp; with_reducible rfl; rotate_left; simp only [Act.put, List.setIfInBounds_toArray, List.set_cons_zero, List.set_cons_succ, i64_w, i32_w]; rfl
                                           refine take_ (i := 16) (N := some 128) (v := ?_) (a' := ?_) #[true, true, true, true, true, true, true, true, true, true, true, true, true, true, true, true, true, true, false, false, false, true, true, true, true, true, true, false, false, false, false, false] rfl rfl (take_ofW HT_.out HW_.out (by kernel_rfl)) (fun _ _ _ h => h) (Or.inl ⟨by rfl, ?_⟩) hHeld ?_ ?_; rotate_left; rintro w' ⟨s0, s1, s2, s3, s4, s5, s6, s7, s8, s9, s10, s11, s12, s13, s14, s15, s16, s17, s18, s19, s20, s21, s22, s23, s24, s25, s26, s27, s28, s29, s30, s31, s32, s33, s34, s35, s36⟩; go_simp; with_reducible rfl; rotate_left; simp only [Act.put, List.setIfInBounds_toArray, List.set_cons_zero, List.set_cons_succ, i64_w, i32_w]; rfl
                                           refine pure_ (i := 18) (N := some 130) (v := ?_) (a' := ?_) #[true, true, true, true, true, true, true, true, true, true, true, true, true, true, true, true, true, true, true, false, false, true, true, true, true, true, true, false, false, false, false, false] rfl rfl (any_of HT_.out (by kernel_rfl)) (fun _ _ _ h => h) (Or.inl ⟨by rfl, ?_⟩) ?_ ?_; rotate_left; intro w'; go_simp; with_reducible rfl; rotate_left; simp only [Act.put, List.setIfInBounds_toArray, List.set_cons_zero, List.set_cons_succ, i64_w, i32_w]; rfl
                                           refine pure_ (i := 19) (N := some 131) (v := ?_) (a' := ?_) #[true, true, true, true, true, true, true, true, true, true, true, true, true, true, true, true, true, true, true, true, false, true, true, true, true, true, true, false, false, false, false, false] rfl rfl (any_of HT_.out (by kernel_rfl)) (fun _ _ _ h => h) (Or.inl ⟨by rfl, ?_⟩) ?_ ?_; rotate_left; intro w'; go_simp; with_reducible rfl; rotate_left; simp only [Act.put, List.setIfInBounds_toArray, List.set_cons_zero, List.set_cons_succ, i64_w, i32_w]; rfl
                                           refine take_ (i := 20) (N := some 132) (v := ?_) (a' := ?_) #[true, true, true, true, true, true, true, true, true, true, true, true, true, true, true, true, true, true, true, true, true, true, true, true, true, true, true, false, false, false, false, false] rfl rfl (take_ofW HT_.out HW_.out (by kernel_rfl)) (fun _ _ _ h => h) (Or.inl ⟨by rfl, ?_⟩) hHeld ?_ ?_; rotate_left; rintro w' ⟨s0, s1, s2, s3, s4, s5, s6, s7, s8, s9, s10, s11, s12, s13, s14, s15, s16, s17, s18, s19, s20, s21, s22, s23, s24, s25, s26, s27, s28, s29, s30, s31, s32, s33, s34, s35, s36⟩; go_simp; with_reducible rfl; rotate_left; simp only [Act.put, List.setIfInBounds_toArray, List.set_cons_zero, List.set_cons_succ, i64_w, i32_w]; rfl
                                           refine take_ (i := 27) (N := some 139) (v := ?_) (a' := ?_) #[true, true, true, true, true, true, true, true, true, true, true, true, true, true, true, true, true, true, true, true, true, true, true, true, true, true, true, true, false, false, false, false] rfl rfl (take_ofW HT_.out HW_.out (by kernel_rfl)) (fun _ _ _ h => h) (Or.inl ⟨by rfl, ?_⟩) hHeld ?_ ?_; rotate_left; rintro w' ⟨s0, s1, s2, s3, s4, s5, s6, s7, s8, s9, s10, s11, s12, s13, s14, s15, s16, s17, s18, s19, s20, s21, s22, s23, s24, s25, s26, s27, s28, s29, s30, s31, s32, s33, s34, s35, s36⟩; go_simp; with_reducible rfl; rotate_left; simp only [Act.put, List.setIfInBounds_toArray, List.set_cons_zero, List.set_cons_succ, i64_w, i32_w]; rfl
                                           refine pure_ (i := 28) (N := some 140) (v := ?_) (a' := ?_) #[true, true, true, true, true, true, true, true, true, true, true, true, true, true, true, true, true, true, true, true, true, true, true, true, true, true, true, true, true, false, false, false] rfl rfl (any_of HT_.out (by kernel_rfl)) (fun _ _ _ h => h) (Or.inl ⟨by rfl, ?_⟩) ?_ ?_; rotate_left; intro w'; go_simp; with_reducible rfl; rotate_left; simp only [Act.put, List.setIfInBounds_toArray, List.set_cons_zero, List.set_cons_succ, i64_w, i32_w]; rfl
                                           refine pure_ (i := 29) (N := some 141) (v := ?_) (a' := ?_) #[true, true, true, true, true, true, true, true, true, true, true, true, true, true, true, true, true, true, true, true, true, true, true, true, true, true, true, true, true, true, false, false] rfl rfl (any_of HT_.out (by kernel_rfl)) (fun _ _ _ h => h) (Or.inl ⟨by rfl, ?_⟩) ?_ ?_; rotate_left; intro w'; go_simp; with_reducible rfl; rotate_left; simp only [Act.put, List.setIfInBounds_toArray, List.set_cons_zero, List.set_cons_succ, i64_w, i32_w]; rfl
                                           refine pure_ (i := 30) (N := some 142) (v := ?_) (a' := ?_) #[true, true, true, true, true, true, true, true, true, true, true, true, true, true, true, true, true, true, true, true, true, true, true, true, true, true, true, true, true, true, true, false] rfl rfl (any_of HT_.out (by kernel_rfl)) (fun _ _ _ h => h) (Or.inl ⟨by rfl, ?_⟩) ?_ ?_; rotate_left; intro w'; go_simp; with_reducible rfl; rotate_left; simp only [Act.put, List.setIfInBounds_toArray, List.set_cons_zero, List.set_cons_succ, i64_w, i32_w]; rfl
                                           refine pure_ (i := 31) (N := some 10) (v := ?_) (a' := ?_) #[true, true, true, true, true, true, true, true, true, true, true, true, true, true, true, true, true, true, true, true, true, true, true, true, true, true, true, true, true, true, true, true] rfl rfl (any_of HT_.out (by kernel_rfl)) (fun _ _ _ h => h) (Or.inl ⟨by rfl, ?_⟩) ?_ ?_; rotate_left; intro w'; go_simp; with_reducible rfl; rotate_left; simp only [Act.put, List.setIfInBounds_toArray, List.set_cons_zero, List.set_cons_succ, i64_w, i32_w]; rfl
                                           refine done_ (done_of HT_.out (by kernel_rfl)) ?_
                                           try go_wp2
                                           go_roundg k5
                                           case measure => have := HK1.out; have := HK2.out; have := HK3.out; have := HK4.out; have := HK5.out; omega
                                           case rel => exact ⟨((((rd_T43 t309 x11_5).f1) == ((rd_T31 t327 (ji63)).f2))), (wrap64 (x11_5 + 1)), (by first | rfl | (simp; done) | (simp only [← hji63] <;> (first | rfl | simp)) | (simp [*]; done)), (by first | rfl | (simp; done) | (simp [*]; done)), H', ⟨by have := HK1.out; have := HK2.out; have := HK3.out; have := HK4.out; have := HK5.out; omega⟩, ⟨by (with_reducible repeat (first | apply Kd.R_alloc | apply Kd.R_drewN | apply Kd.R_drew)); exact HO_7.out⟩, ⟨by (with_reducible repeat (first | apply Kd.R_alloc | apply Kd.R_drewN | apply Kd.R_drew)); exact HO_319000.out⟩, ⟨by (with_reducible repeat (first | apply Kd.R_alloc | apply Kd.R_drewN | apply Kd.R_drew)); exact HO_319001.out⟩, ⟨by (with_reducible repeat (first | apply Kd.R_alloc | apply Kd.R_drewN | apply Kd.R_drew)); exact HO_319002.out⟩, ⟨by (with_reducible repeat (first | refine blk_drewN ?_ _ | refine blk_drew ?_ | refine blk_alloc ?_ _)); exact BK318.out⟩, ⟨by repeat (first | (with_reducible first | exact HB.out | apply below_alloc | apply pw_below_drewN | apply below_drew1 | refine below_set ?_ GE318.out) | exact HB.out)⟩⟩
                                         · rw [if_neg c65] at H
                                           exact absurd H (by simp)
                                       · rw [if_neg c64] at H
                                         exact absurd H (by simp)
                                     · rw [if_neg c62] at H
                                       have c62b0 : (((rd_T43 t309 x11_5).f0.f0) == ((rd_T31 l0 x6_3).f1.f0) && (((rd_T43 t309 x11_5).f0.f1) == ((rd_T31 l0 x6_3).f1.f1) && (((rd_T43 t309 x11_5).f0.f2) == ((rd_T31 l0 x6_3).f1.f2)))) = false := by simpa using c62
                                       (try (have c62b1 : decide (((rd_T43 t309 x11_5).f0.f0) = ((rd_T31 l0 x6_3).f1.f0) && (((rd_T43 t309 x11_5).f0.f1) == ((rd_T31 l0 x6_3).f1.f1) && (((rd_T43 t309 x11_5).f0.f2) == ((rd_T31 l0 x6_3).f1.f2)))) = false := by simpa using c62))
                                       (try (have c62b2 : (((rd_T43 t309 x11_5).f0.f0) == ((rd_T31 l0 x6_3).f1.f0) && (((rd_T43 t309 x11_5).f0.f1) == ((rd_T31 l0 x6_3).f1.f1) && (((rd_T43 t309 x11_5).f0.f2) == ((rd_T31 l0 x6_3).f1.f2)))) = false := by simpa using c62))
                                       (try (have c62b3 : ¬ (((rd_T43 t309 x11_5).f0.f0) = ((rd_T31 l0 x6_3).f1.f0) && (((rd_T43 t309 x11_5).f0.f1) == ((rd_T31 l0 x6_3).f1.f1) && (((rd_T43 t309 x11_5).f0.f2) == ((rd_T31 l0 x6_3).f1.f2)))) := by simpa using c62))
                                       clear c62
                                       have H' := Aside0.mk H
                                       clear H
                                       have hcz68_0 : wr.cell? ⟨gb318, 0, none⟩ = some (.slice Ao11 t309.length co11) := (blk_cell BK318.out 0).trans rfl
                                       have hcz68_1 : wr.cell? ⟨gb318, 1, none⟩ = some (.slice Ao13 t312.length co13) := (blk_cell BK318.out 1).trans rfl
                                       have hcz68_2 : wr.cell? ⟨gb318, 2, none⟩ = some (.slice Ao14 t315.length co14) := (blk_cell BK318.out 2).trans rfl
                                       have hfz68_0 := blk_frozen BK318.out 0
                                       have hfz68_1 := blk_frozen BK318.out 1
                                       have hfz68_2 := blk_frozen BK318.out 2
                                       try go_wp2
                                       have n0_ := Aside0.mk (Kd.R_drew HO_7.out)
                                       have n1_ := Aside0.mk (Kd.R_drew HO_319000.out)
                                       have n2_ := Aside0.mk (Kd.R_drew HO_319001.out)
                                       have n3_ := Aside0.mk (Kd.R_drew HO_319002.out)
                                       have n4_ := Aside0.mk (blk_drew BK318.out)
                                       have n5_ := Aside0.mk (below_drew1 HB.out)
                                       clear HO_7
                                       clear HO_319000
                                       clear HO_319001
                                       clear HO_319002
                                       clear BK318
                                       clear HB
                                       have HO_7 := n0_
                                       have HO_319000 := n1_
                                       have HO_319001 := n2_
                                       have HO_319002 := n3_
                                       have BK318 := n4_
                                       have HB := n5_
                                       clear n0_ n1_ n2_ n3_ n4_ n5_
                                       have p332 : 0 ≤ (x11_5 : Int) := of_decide_eq_true (by first | (with_reducible assumption) | assumption)
                                       have q332 : x11_5 < (t309.length : Int) := of_decide_eq_true (by first | (with_reducible assumption) | assumption)
                                       obtain ⟨ad332, e332, hx332_0, hx332_1, hx332_2, hx332_3⟩ := at_T43 (Kd.R_reads' HO_319000.out).2.2 x11_5 p332 q332
                                       cases e332
                                       replace p332 := eq_true p332
                                       replace q332 := eq_true q332
                                       have p333 : 0 ≤ (x6_3 : Int) := of_decide_eq_true (by first | (with_reducible assumption) | assumption)
                                       have q333 : x6_3 < (l0.length : Int) := of_decide_eq_true (by first | (with_reducible assumption) | assumption)
                                       obtain ⟨ad333, e333, hx333_0, hx333_1, hx333_2, hx333_3, hx333_4, hx333_5, hx333_6, hx333_7, hx333_8, hx333_9, hx333_10, hx333_11, hx333_12⟩ := at_T31 HR0.out x6_3 p333 q333
                                       have hw333_12 := hx333_12
                                       have hw333_11 := hx333_11
                                       have hw333_10 := hx333_10
                                       have hw333_9 := hx333_9
                                       have hw333_8 := hx333_8
                                       have hw333_7 := hx333_7
                                       have hw333_6 := hx333_6
                                       have hw333_5 := hx333_5
                                       have hw333_4 := hx333_4
                                       have hw333_3 := hx333_3
                                       have hw333_2 := hx333_2
                                       have hw333_1 := hx333_1
                                       have hw333_0 := hx333_0
                                       obtain rfl : ad324 = ad333 := (by injection e333)
                                       replace hx333_0 := (HB.out.cell (World.block_lt_of_cell? w _ hx333_0)).trans hx333_0
                                       replace hx333_1 := (HB.out.cell (World.block_lt_of_cell? w _ hx333_1)).trans hx333_1
                                       replace hx333_2 := (HB.out.cell (World.block_lt_of_cell? w _ hx333_2)).trans hx333_2
                                       replace hx333_3 := (HB.out.cell (World.block_lt_of_cell? w _ hx333_3)).trans hx333_3
                                       replace hx333_4 := (HB.out.cell (World.block_lt_of_cell? w _ hx333_4)).trans hx333_4
                                       replace hx333_5 := (HB.out.cell (World.block_lt_of_cell? w _ hx333_5)).trans hx333_5
                                       replace hx333_6 := (HB.out.cell (World.block_lt_of_cell? w _ hx333_6)).trans hx333_6
                                       replace hx333_7 := (HB.out.cell (World.block_lt_of_cell? w _ hx333_7)).trans hx333_7
                                       replace hx333_8 := (HB.out.cell (World.block_lt_of_cell? w _ hx333_8)).trans hx333_8
                                       replace hx333_9 := (HB.out.cell (World.block_lt_of_cell? w _ hx333_9)).trans hx333_9
                                       replace hx333_10 := (HB.out.cell (World.block_lt_of_cell? w _ hx333_10)).trans hx333_10
                                       replace hx333_11 := (HB.out.cell (World.block_lt_of_cell? w _ hx333_11)).trans hx333_11
                                       replace hx333_12 := (HB.out.cell (World.block_lt_of_cell? w _ hx333_12)).trans hx333_12
                                       replace p333 := eq_true p333
                                       replace q333 := eq_true q333
                                       refine start_ (n := 32) (S := fun w' => w'.cell? ⟨gb318, 0, none⟩ = some (.slice (some ad332) t309.length co11) ∧ w'.cell? ⟨gb318, 1, none⟩ = some (.slice Ao13 t312.length co13) ∧ w'.cell? ⟨gb318, 2, none⟩ = some (.slice Ao14 t315.length co14) ∧ w'.cell? (ad332.add ((x11_5).toNat * 4)) = some (.int .i64 ((rd_T43 t309 x11_5).f0.f0)) ∧ w'.cell? ⟨(ad332.add ((x11_5).toNat * 4)).block, (ad332.add ((x11_5).toNat * 4)).off + 1, none⟩ = some (.int .i64 ((rd_T43 t309 x11_5).f0.f1)) ∧ w'.cell? ⟨(ad332.add ((x11_5).toNat * 4)).block, (ad332.add ((x11_5).toNat * 4)).off + 2, none⟩ = some (.int .i64 ((rd_T43 t309 x11_5).f0.f2)) ∧ w'.cell? ⟨(ad332.add ((x11_5).toNat * 4)).block, (ad332.add ((x11_5).toNat * 4)).off + 3, none⟩ = some (.int .i64 ((rd_T43 t309 x11_5).f1)) ∧ w'.cell? (ad324.add ((x6_3).toNat * 13)) = some (.int .i64 ((rd_T31 l0 x6_3).f0)) ∧ w'.cell? ⟨(ad324.add ((x6_3).toNat * 13)).block, (ad324.add ((x6_3).toNat * 13)).off + 1, none⟩ = some (.int .i64 ((rd_T31 l0 x6_3).f1.f0)) ∧ w'.cell? ⟨(ad324.add ((x6_3).toNat * 13)).block, (ad324.add ((x6_3).toNat * 13)).off + 2, none⟩ = some (.int .i64 ((rd_T31 l0 x6_3).f1.f1)) ∧ w'.cell? ⟨(ad324.add ((x6_3).toNat * 13)).block, (ad324.add ((x6_3).toNat * 13)).off + 3, none⟩ = some (.int .i64 ((rd_T31 l0 x6_3).f1.f2)) ∧ w'.cell? ⟨(ad324.add ((x6_3).toNat * 13)).block, (ad324.add ((x6_3).toNat * 13)).off + 4, none⟩ = some (.int .i64 ((rd_T31 l0 x6_3).f2)) ∧ w'.cell? ⟨(ad324.add ((x6_3).toNat * 13)).block, (ad324.add ((x6_3).toNat * 13)).off + 5, none⟩ = some (.int .i64 ((rd_T31 l0 x6_3).f3)) ∧ w'.cell? ⟨(ad324.add ((x6_3).toNat * 13)).block, (ad324.add ((x6_3).toNat * 13)).off + 6, none⟩ = some (.int .i64 ((rd_T31 l0 x6_3).f4)) ∧ w'.cell? ⟨(ad324.add ((x6_3).toNat * 13)).block, (ad324.add ((x6_3).toNat * 13)).off + 7, none⟩ = some (.int .i64 ((rd_T31 l0 x6_3).f5)) ∧ w'.cell? ⟨(ad324.add ((x6_3).toNat * 13)).block, (ad324.add ((x6_3).toNat * 13)).off + 8, none⟩ = some (.bool ((rd_T31 l0 x6_3).f6.f0)) ∧ w'.cell? ⟨(ad324.add ((x6_3).toNat * 13)).block, (ad324.add ((x6_3).toNat * 13)).off + 9, none⟩ = some (.string ((rd_T31 l0 x6_3).f6.f1)) ∧ w'.cell? ⟨(ad324.add ((x6_3).toNat * 13)).block, (ad324.add ((x6_3).toNat * 13)).off + 10, none⟩ = some (.bool ((rd_T31 l0 x6_3).f7.f0)) ∧ w'.cell? ⟨(ad324.add ((x6_3).toNat * 13)).block, (ad324.add ((x6_3).toNat * 13)).off + 11, none⟩ = some (.string ((rd_T31 l0 x6_3).f7.f1)) ∧ w'.cell? ⟨(ad324.add ((x6_3).toNat * 13)).block, (ad324.add ((x6_3).toNat * 13)).off + 12, none⟩ = some (.int .i64 ((rd_T31 l0 x6_3).f8))) (ds := []) #[false, false, false, false, false, false, false, false, false, false, false, false, false, false, false, false, false, false, false, false, false, false, false, false, false, false, false, false, false, false, false, false] (by kernel_rfl) rfl rfl ⟨(blk_cell BK318.out 0).trans rfl, (blk_cell BK318.out 1).trans rfl, (blk_cell BK318.out 2).trans rfl, hx332_0, hx332_1, hx332_2, hx332_3, ((HB.out.cell (World.block_lt_of_cell? w _ hw333_0)).trans hw333_0), ((HB.out.cell (World.block_lt_of_cell? w _ hw333_1)).trans hw333_1), ((HB.out.cell (World.block_lt_of_cell? w _ hw333_2)).trans hw333_2), ((HB.out.cell (World.block_lt_of_cell? w _ hw333_3)).trans hw333_3), ((HB.out.cell (World.block_lt_of_cell? w _ hw333_4)).trans hw333_4), ((HB.out.cell (World.block_lt_of_cell? w _ hw333_5)).trans hw333_5), ((HB.out.cell (World.block_lt_of_cell? w _ hw333_6)).trans hw333_6), ((HB.out.cell (World.block_lt_of_cell? w _ hw333_7)).trans hw333_7), ((HB.out.cell (World.block_lt_of_cell? w _ hw333_8)).trans hw333_8), ((HB.out.cell (World.block_lt_of_cell? w _ hw333_9)).trans hw333_9), ((HB.out.cell (World.block_lt_of_cell? w _ hw333_10)).trans hw333_10), ((HB.out.cell (World.block_lt_of_cell? w _ hw333_11)).trans hw333_11), ((HB.out.cell (World.block_lt_of_cell? w _ hw333_12)).trans hw333_12)⟩ (fun hHeld => ?_); refine with_tabW seneschallaw17_PastParts.tab30 seneschallaw17_PastParts.bits30 (fun HT_ HW_ => ?_)
                                       generalize wr.drew = w69 at HO_7 HO_319000 HO_319001 HO_319002 BK318 HB hx332_0 hx332_1 hx332_2 hx332_3 hx333_0 hx333_1 hx333_10 hx333_11 hx333_12 hx333_2 hx333_3 hx333_4 hx333_5 hx333_6 hx333_7 hx333_8 hx333_9 hHeld ⊢
                                       refine pure_ (i := 0) (N := some 112) (v := ?_) (a' := ?_) #[true, false, false, false, false, false, false, false, false, false, false, false, false, false, false, false, false, false, false, false, false, false, false, false, false, false, false, false, false, false, false, false] rfl rfl (any_of HT_.out (by kernel_rfl)) (fun _ _ _ h => h) (Or.inl ⟨by rfl, ?_⟩) ?_ ?_; rotate_left; intro w'; go_simp; with_reducible rfl; rotate_left; simp only [Act.put, List.setIfInBounds_toArray, List.set_cons_zero, List.set_cons_succ, i64_w, i32_w]; rfl
                                       refine pure_ (i := 1) (N := some 113) (v := ?_) (a' := ?_) #[true, true, false, false, false, false, false, false, false, false, false, false, false, false, false, false, false, false, false, false, false, false, false, false, false, false, false, false, false, false, false, false] rfl rfl (any_of HT_.out (by kernel_rfl)) (fun _ _ _ h => h) (Or.inl ⟨by rfl, ?_⟩) ?_ ?_; rotate_left; intro w'; go_simp; with_reducible rfl; rotate_left; simp only [Act.put, List.setIfInBounds_toArray, List.set_cons_zero, List.set_cons_succ, i64_w, i32_w]; rfl
                                       refine pure_ (i := 2) (N := some 114) (v := ?_) (a' := ?_) #[true, true, true, false, false, false, false, false, false, false, false, false, false, false, false, false, false, false, false, false, false, false, false, false, false, false, false, false, false, false, false, false] rfl rfl (any_of HT_.out (by kernel_rfl)) (fun _ _ _ h => h) (Or.inl ⟨by rfl, ?_⟩) ?_ ?_; rotate_left; intro w'; go_simp; with_reducible rfl; rotate_left; simp only [Act.put, List.setIfInBounds_toArray, List.set_cons_zero, List.set_cons_succ, i64_w, i32_w]; rfl
                                       refine pure_ (i := 4) (N := some 116) (v := ?_) (a' := ?_) #[true, true, true, false, true, false, false, false, false, false, false, false, false, false, false, false, false, false, false, false, false, false, false, false, false, false, false, false, false, false, false, false] rfl rfl (any_of HT_.out (by kernel_rfl)) (fun _ _ _ h => h) (Or.inl ⟨by rfl, ?_⟩) ?_ ?_; rotate_left; intro w'; go_simp; with_reducible rfl; rotate_left; simp only [Act.put, List.setIfInBounds_toArray, List.set_cons_zero, List.set_cons_succ, i64_w, i32_w]; rfl
                                       refine pure_ (i := 8) (N := some 120) (v := ?_) (a' := ?_) #[true, true, true, false, true, false, false, false, true, false, false, false, false, false, false, false, false, false, false, false, false, false, false, false, false, false, false, false, false, false, false, false] rfl rfl (any_of HT_.out (by kernel_rfl)) (fun _ _ _ h => h) (Or.inl ⟨by rfl, ?_⟩) ?_ ?_; rotate_left; intro w'; go_simp; with_reducible rfl; rotate_left; simp only [Act.put, List.setIfInBounds_toArray, List.set_cons_zero, List.set_cons_succ, i64_w, i32_w]; rfl
                                       refine pure_ (i := 9) (N := some 121) (v := ?_) (a' := ?_) #[true, true, true, false, true, false, false, false, true, true, false, false, false, false, false, false, false, false, false, false, false, false, false, false, false, false, false, false, false, false, false, false] rfl rfl (any_of HT_.out (by kernel_rfl)) (fun _ _ _ h => h) (Or.inl ⟨by rfl, ?_⟩) ?_ ?_; rotate_left; intro w'; go_simp; with_reducible rfl; rotate_left; simp only [Act.put, List.setIfInBounds_toArray, List.set_cons_zero, List.set_cons_succ, i64_w, i32_w]; rfl
                                       refine pure_ (i := 10) (N := some 122) (v := ?_) (a' := ?_) #[true, true, true, false, true, false, false, false, true, true, true, false, false, false, false, false, false, false, false, false, false, false, false, false, false, false, false, false, false, false, false, false] rfl rfl (any_of HT_.out (by kernel_rfl)) (fun _ _ _ h => h) (Or.inl ⟨by rfl, ?_⟩) ?_ ?_; rotate_left; intro w'; go_simp; with_reducible rfl; rotate_left; simp only [Act.put, List.setIfInBounds_toArray, List.set_cons_zero, List.set_cons_succ, i64_w, i32_w]; rfl
                                       refine pure_ (i := 11) (N := some 123) (v := ?_) (a' := ?_) #[true, true, true, false, true, false, false, false, true, true, true, true, false, false, false, false, false, false, false, false, false, false, false, false, false, false, false, false, false, false, false, false] rfl rfl (any_of HT_.out (by kernel_rfl)) (fun _ _ _ h => h) (Or.inl ⟨by rfl, ?_⟩) ?_ ?_; rotate_left; intro w'; go_simp; with_reducible rfl; rotate_left; simp only [Act.put, List.setIfInBounds_toArray, List.set_cons_zero, List.set_cons_succ, i64_w, i32_w]; rfl
                                       refine take_ (i := 3) (N := some 115) (v := ?_) (a' := ?_) #[true, true, true, true, true, false, false, false, true, true, true, true, false, false, false, false, false, false, false, false, false, false, false, false, false, false, false, false, false, false, false, false] rfl rfl (take_ofW HT_.out HW_.out (by kernel_rfl)) (fun _ _ _ h => h) (Or.inl ⟨by rfl, ?_⟩) hHeld ?_ ?_; rotate_left; rintro w' ⟨s0, s1, s2, s3, s4, s5, s6, s7, s8, s9, s10, s11, s12, s13, s14, s15, s16, s17, s18, s19⟩; go_simp; with_reducible rfl; rotate_left; simp only [Act.put, List.setIfInBounds_toArray, List.set_cons_zero, List.set_cons_succ, i64_w, i32_w]; rfl
                                       refine pure_ (i := 5) (N := some 117) (v := ?_) (a' := ?_) #[true, true, true, true, true, true, false, false, true, true, true, true, false, false, false, false, false, false, false, false, false, false, false, false, false, false, false, false, false, false, false, false] rfl rfl (any_of HT_.out (by kernel_rfl)) (fun _ _ _ h => h) (Or.inl ⟨by rfl, ?_⟩) ?_ ?_; rotate_left; intro w'; go_simp; with_reducible rfl; rotate_left; simp only [Act.put, List.setIfInBounds_toArray, List.set_cons_zero, List.set_cons_succ, i64_w, i32_w]; rfl
                                       refine pure_ (i := 6) (N := some 118) (v := ?_) (a' := ?_) #[true, true, true, true, true, true, true, false, true, true, true, true, false, false, false, false, false, false, false, false, false, false, false, false, false, false, false, false, false, false, false, false] rfl rfl (any_of HT_.out (by kernel_rfl)) (fun _ _ _ h => h) (Or.inl ⟨by rfl, ?_⟩) ?_ ?_; rotate_left; intro w'; go_simp; with_reducible rfl; rotate_left; simp only [Act.put, List.setIfInBounds_toArray, List.set_cons_zero, List.set_cons_succ, i64_w, i32_w]; rfl
                                       refine take_ (i := 7) (N := some 119) (v := ?_) (a' := ?_) #[true, true, true, true, true, true, true, true, true, true, true, true, false, false, false, false, false, false, false, false, false, false, false, false, false, false, false, false, false, false, false, false] rfl rfl (take_ofW HT_.out HW_.out (by kernel_rfl)) (fun _ _ _ h => h) (Or.inl ⟨by rfl, ?_⟩) hHeld ?_ ?_; rotate_left; rintro w' ⟨s0, s1, s2, s3, s4, s5, s6, s7, s8, s9, s10, s11, s12, s13, s14, s15, s16, s17, s18, s19⟩; go_simp; with_reducible rfl; rotate_left; simp only [Act.put, List.setIfInBounds_toArray, List.set_cons_zero, List.set_cons_succ, i64_w, i32_w]; rfl
                                       refine take_ (i := 12) (N := some 124) (v := ?_) (a' := ?_) #[true, true, true, true, true, true, true, true, true, true, true, true, true, false, false, false, false, false, false, false, false, false, false, false, false, false, false, false, false, false, false, false] rfl rfl (take_ofW HT_.out HW_.out (by kernel_rfl)) (fun _ _ _ h => h) (Or.inl ⟨by rfl, ?_⟩) hHeld ?_ ?_; rotate_left; rintro w' ⟨s0, s1, s2, s3, s4, s5, s6, s7, s8, s9, s10, s11, s12, s13, s14, s15, s16, s17, s18, s19⟩; go_simp; with_reducible rfl; rotate_left; simp only [Act.put, List.setIfInBounds_toArray, List.set_cons_zero, List.set_cons_succ, i64_w, i32_w]; rfl
                                       refine pure_ (i := 13) (N := some 125) (v := ?_) (a' := ?_) #[true, true, true, true, true, true, true, true, true, true, true, true, true, true, false, false, false, false, false, false, false, false, false, false, false, false, false, false, false, false, false, false] rfl rfl (any_of HT_.out (by kernel_rfl)) (fun _ _ _ h => h) (Or.inl ⟨by rfl, ?_⟩) ?_ ?_; rotate_left; intro w'; go_simp; with_reducible rfl; rotate_left; simp only [Act.put, List.setIfInBounds_toArray, List.set_cons_zero, List.set_cons_succ, i64_w, i32_w]; rfl
                                       refine pure_ (i := 14) (N := some 126) (v := ?_) (a' := ?_) #[true, true, true, true, true, true, true, true, true, true, true, true, true, true, true, false, false, false, false, false, false, false, false, false, false, false, false, false, false, false, false, false] rfl rfl (any_of HT_.out (by kernel_rfl)) (fun _ _ _ h => h) (Or.inl ⟨by rfl, ?_⟩) ?_ ?_; rotate_left; intro w'; go_simp; with_reducible rfl; rotate_left; simp only [Act.put, List.setIfInBounds_toArray, List.set_cons_zero, List.set_cons_succ, i64_w, i32_w]; rfl
                                       refine pure_ (i := 15) (N := some 127) (v := undef) (a' := ?_) #[true, true, true, true, true, true, true, true, true, true, true, true, true, true, true, true, false, false, false, false, false, false, false, false, false, false, false, false, false, false, false, false] rfl rfl (any_of HT_.out (by kernel_rfl)) (fun _ _ _ h => h) (Or.inr ⟨by rfl, rfl⟩) ?_ ?_
                                       rotate_left
                                       · simp only [Act.put, List.setIfInBounds_toArray, List.set_cons_zero, List.set_cons_succ, i64_w, i32_w]
                                         rfl
                                       refine pure_ (i := 16) (N := some 128) (v := undef) (a' := ?_) #[true, true, true, true, true, true, true, true, true, true, true, true, true, true, true, true, true, false, false, false, false, false, false, false, false, false, false, false, false, false, false, false] rfl rfl (any_of HT_.out (by kernel_rfl)) (fun _ _ _ h => h) (Or.inr ⟨by rfl, rfl⟩) ?_ ?_
                                       rotate_left
                                       · simp only [Act.put, List.setIfInBounds_toArray, List.set_cons_zero, List.set_cons_succ, i64_w, i32_w]
                                         rfl
                                       refine pure_ (i := 17) (N := some 129) (v := undef) (a' := ?_) #[true, true, true, true, true, true, true, true, true, true, true, true, true, true, true, true, true, true, false, false, false, false, false, false, false, false, false, false, false, false, false, false] rfl rfl (any_of HT_.out (by kernel_rfl)) (fun _ _ _ h => h) (Or.inr ⟨by rfl, rfl⟩) ?_ ?_
                                       rotate_left
                                       · simp only [Act.put, List.setIfInBounds_toArray, List.set_cons_zero, List.set_cons_succ, i64_w, i32_w]
                                         rfl
                                       refine pure_ (i := 18) (N := some 130) (v := undef) (a' := ?_) #[true, true, true, true, true, true, true, true, true, true, true, true, true, true, true, true, true, true, true, false, false, false, false, false, false, false, false, false, false, false, false, false] rfl rfl (any_of HT_.out (by kernel_rfl)) (fun _ _ _ h => h) (Or.inr ⟨by rfl, rfl⟩) ?_ ?_
                                       rotate_left
                                       · simp only [Act.put, List.setIfInBounds_toArray, List.set_cons_zero, List.set_cons_succ, i64_w, i32_w]
                                         rfl
                                       refine pure_ (i := 19) (N := some 131) (v := undef) (a' := ?_) #[true, true, true, true, true, true, true, true, true, true, true, true, true, true, true, true, true, true, true, true, false, false, false, false, false, false, false, false, false, false, false, false] rfl rfl (any_of HT_.out (by kernel_rfl)) (fun _ _ _ h => h) (Or.inr ⟨by rfl, rfl⟩) ?_ ?_
                                       rotate_left
                                       · simp only [Act.put, List.setIfInBounds_toArray, List.set_cons_zero, List.set_cons_succ, i64_w, i32_w]
                                         rfl
                                       refine pure_ (i := 20) (N := some 132) (v := undef) (a' := ?_) #[true, true, true, true, true, true, true, true, true, true, true, true, true, true, true, true, true, true, true, true, true, false, false, false, false, false, false, false, false, false, false, false] rfl rfl (any_of HT_.out (by kernel_rfl)) (fun _ _ _ h => h) (Or.inr ⟨by rfl, rfl⟩) ?_ ?_
                                       rotate_left
                                       · simp only [Act.put, List.setIfInBounds_toArray, List.set_cons_zero, List.set_cons_succ, i64_w, i32_w]
                                         rfl
                                       refine pure_ (i := 21) (N := some 133) (v := undef) (a' := ?_) #[true, true, true, true, true, true, true, true, true, true, true, true, true, true, true, true, true, true, true, true, true, true, false, false, false, false, false, false, false, false, false, false] rfl rfl (any_of HT_.out (by kernel_rfl)) (fun _ _ _ h => h) (Or.inr ⟨by rfl, rfl⟩) ?_ ?_
                                       rotate_left
                                       · simp only [Act.put, List.setIfInBounds_toArray, List.set_cons_zero, List.set_cons_succ, i64_w, i32_w]
                                         rfl
                                       refine pure_ (i := 22) (N := some 134) (v := undef) (a' := ?_) #[true, true, true, true, true, true, true, true, true, true, true, true, true, true, true, true, true, true, true, true, true, true, true, false, false, false, false, false, false, false, false, false] rfl rfl (any_of HT_.out (by kernel_rfl)) (fun _ _ _ h => h) (Or.inr ⟨by rfl, rfl⟩) ?_ ?_
                                       rotate_left
                                       · simp only [Act.put, List.setIfInBounds_toArray, List.set_cons_zero, List.set_cons_succ, i64_w, i32_w]
                                         rfl
                                       refine pure_ (i := 23) (N := some 135) (v := undef) (a' := ?_) #[true, true, true, true, true, true, true, true, true, true, true, true, true, true, true, true, true, true, true, true, true, true, true, true, false, false, false, false, false, false, false, false] rfl rfl (any_of HT_.out (by kernel_rfl)) (fun _ _ _ h => h) (Or.inr ⟨by rfl, rfl⟩) ?_ ?_
                                       rotate_left
                                       · simp only [Act.put, List.setIfInBounds_toArray, List.set_cons_zero, List.set_cons_succ, i64_w, i32_w]
                                         rfl
                                       refine pure_ (i := 24) (N := some 136) (v := undef) (a' := ?_) #[true, true, true, true, true, true, true, true, true, true, true, true, true, true, true, true, true, true, true, true, true, true, true, true, true, false, false, false, false, false, false, false] rfl rfl (any_of HT_.out (by kernel_rfl)) (fun _ _ _ h => h) (Or.inr ⟨by rfl, rfl⟩) ?_ ?_
                                       rotate_left
                                       · simp only [Act.put, List.setIfInBounds_toArray, List.set_cons_zero, List.set_cons_succ, i64_w, i32_w]
                                         rfl
                                       refine pure_ (i := 25) (N := some 137) (v := undef) (a' := ?_) #[true, true, true, true, true, true, true, true, true, true, true, true, true, true, true, true, true, true, true, true, true, true, true, true, true, true, false, false, false, false, false, false] rfl rfl (any_of HT_.out (by kernel_rfl)) (fun _ _ _ h => h) (Or.inr ⟨by rfl, rfl⟩) ?_ ?_
                                       rotate_left
                                       · simp only [Act.put, List.setIfInBounds_toArray, List.set_cons_zero, List.set_cons_succ, i64_w, i32_w]
                                         rfl
                                       refine pure_ (i := 26) (N := some 138) (v := undef) (a' := ?_) #[true, true, true, true, true, true, true, true, true, true, true, true, true, true, true, true, true, true, true, true, true, true, true, true, true, true, true, false, false, false, false, false] rfl rfl (any_of HT_.out (by kernel_rfl)) (fun _ _ _ h => h) (Or.inr ⟨by rfl, rfl⟩) ?_ ?_
                                       rotate_left
                                       · simp only [Act.put, List.setIfInBounds_toArray, List.set_cons_zero, List.set_cons_succ, i64_w, i32_w]
                                         rfl
                                       refine pure_ (i := 27) (N := some 139) (v := undef) (a' := ?_) #[true, true, true, true, true, true, true, true, true, true, true, true, true, true, true, true, true, true, true, true, true, true, true, true, true, true, true, true, false, false, false, false] rfl rfl (any_of HT_.out (by kernel_rfl)) (fun _ _ _ h => h) (Or.inr ⟨by rfl, rfl⟩) ?_ ?_
                                       rotate_left
                                       · simp only [Act.put, List.setIfInBounds_toArray, List.set_cons_zero, List.set_cons_succ, i64_w, i32_w]
                                         rfl
                                       refine pure_ (i := 28) (N := some 140) (v := undef) (a' := ?_) #[true, true, true, true, true, true, true, true, true, true, true, true, true, true, true, true, true, true, true, true, true, true, true, true, true, true, true, true, true, false, false, false] rfl rfl (any_of HT_.out (by kernel_rfl)) (fun _ _ _ h => h) (Or.inr ⟨by rfl, rfl⟩) ?_ ?_
                                       rotate_left
                                       · simp only [Act.put, List.setIfInBounds_toArray, List.set_cons_zero, List.set_cons_succ, i64_w, i32_w]
                                         rfl
                                       refine pure_ (i := 29) (N := some 141) (v := ?_) (a' := ?_) #[true, true, true, true, true, true, true, true, true, true, true, true, true, true, true, true, true, true, true, true, true, true, true, true, true, true, true, true, true, true, false, false] rfl rfl (any_of HT_.out (by kernel_rfl)) (fun _ _ _ h => h) (Or.inl ⟨by rfl, ?_⟩) ?_ ?_; rotate_left; intro w'; go_simp; with_reducible rfl; rotate_left; simp only [Act.put, List.setIfInBounds_toArray, List.set_cons_zero, List.set_cons_succ, i64_w, i32_w]; rfl
                                       refine pure_ (i := 30) (N := some 142) (v := ?_) (a' := ?_) #[true, true, true, true, true, true, true, true, true, true, true, true, true, true, true, true, true, true, true, true, true, true, true, true, true, true, true, true, true, true, true, false] rfl rfl (any_of HT_.out (by kernel_rfl)) (fun _ _ _ h => h) (Or.inl ⟨by rfl, ?_⟩) ?_ ?_; rotate_left; intro w'; go_simp; with_reducible rfl; rotate_left; simp only [Act.put, List.setIfInBounds_toArray, List.set_cons_zero, List.set_cons_succ, i64_w, i32_w]; rfl
                                       refine pure_ (i := 31) (N := some 10) (v := ?_) (a' := ?_) #[true, true, true, true, true, true, true, true, true, true, true, true, true, true, true, true, true, true, true, true, true, true, true, true, true, true, true, true, true, true, true, true] rfl rfl (any_of HT_.out (by kernel_rfl)) (fun _ _ _ h => h) (Or.inl ⟨by rfl, ?_⟩) ?_ ?_; rotate_left; intro w'; go_simp; with_reducible rfl; rotate_left; simp only [Act.put, List.setIfInBounds_toArray, List.set_cons_zero, List.set_cons_succ, i64_w, i32_w]; rfl
                                       refine done_ (done_of HT_.out (by kernel_rfl)) ?_
                                       try go_wp2
                                       go_roundg k5
                                       case measure => have := HK1.out; have := HK2.out; have := HK3.out; have := HK4.out; have := HK5.out; omega
                                       case rel => exact ⟨(false), (wrap64 (x11_5 + 1)), (by first | rfl | (simp; done) | (simp [*]; done)), (by first | rfl | (simp; done) | (simp [*]; done)), H', ⟨by have := HK1.out; have := HK2.out; have := HK3.out; have := HK4.out; have := HK5.out; omega⟩, ⟨by (with_reducible repeat (first | apply Kd.R_alloc | apply Kd.R_drewN | apply Kd.R_drew)); exact HO_7.out⟩, ⟨by (with_reducible repeat (first | apply Kd.R_alloc | apply Kd.R_drewN | apply Kd.R_drew)); exact HO_319000.out⟩, ⟨by (with_reducible repeat (first | apply Kd.R_alloc | apply Kd.R_drewN | apply Kd.R_drew)); exact HO_319001.out⟩, ⟨by (with_reducible repeat (first | apply Kd.R_alloc | apply Kd.R_drewN | apply Kd.R_drew)); exact HO_319002.out⟩, ⟨by (with_reducible repeat (first | refine blk_drewN ?_ _ | refine blk_drew ?_ | refine blk_alloc ?_ _)); exact BK318.out⟩, ⟨by repeat (first | (with_reducible first | exact HB.out | apply below_alloc | apply pw_below_drewN | apply below_drew1 | refine below_set ?_ GE318.out) | exact HB.out)⟩⟩
                                   · rw [if_neg c61] at H
                                     exact absurd H (by simp)
                                 · rw [if_neg c60] at H
                                   exact absurd H (by simp)
                               · rw [if_neg c59] at H
                                 exact absurd H (by simp)
                           · rw [if_neg c55] at H
                             have c55b0 : decide (x11_5 < (t309.length : Int)) = false := decide_eq_false c55
                             clear c55
                             have H' := Aside0.mk H
                             clear H
                             have hcz70_0 : wr.cell? ⟨gb318, 0, none⟩ = some (.slice Ao11 t309.length co11) := (blk_cell BK318.out 0).trans rfl
                             have hcz70_1 : wr.cell? ⟨gb318, 1, none⟩ = some (.slice Ao13 t312.length co13) := (blk_cell BK318.out 1).trans rfl
                             have hcz70_2 : wr.cell? ⟨gb318, 2, none⟩ = some (.slice Ao14 t315.length co14) := (blk_cell BK318.out 2).trans rfl
                             have hfz70_0 := blk_frozen BK318.out 0
                             have hfz70_1 := blk_frozen BK318.out 1
                             have hfz70_2 := blk_frozen BK318.out 2
                             go_wp2
                             go_loopg [12, 13] k5 (fun kq v12 v13 w' => ∃ (x12_6 : Int) (x13_6 : Int), v12 = .int .i64 x12_6 ∧ v13 = .int .i64 x13_6 ∧ Aside0 (seneschallaw17_PastParts.l5 kq l0 x6_3 x8_4 x10_5 x12_6 x13_6 t309 t312 t315 = some r) ∧ Aside0 (kq ≤ k5) ∧ Aside0 (Kd.R k43 43 w' w.heap.size (fun _ => True) (.slice Ao11 t309.length co11) t309) ∧ Aside0 (Kd.R k24 24 w' w.heap.size (fun _ => True) (.slice Ao13 t312.length co13) t312) ∧ Aside0 (Kd.R k45 45 w' w.heap.size (fun _ => True) (.slice Ao14 t315.length co14) t315) ∧ Aside0 (w'.heap[gb318]? = some (.cells #[(.slice Ao11 t309.length co11), (.slice Ao13 t312.length co13), (.slice Ao14 t315.length co14)] 37 (0, 0))) ∧ Aside0 (Below w.heap.size w w'))
                             case atStart => exact ⟨(0), (0), (by first | rfl | (simp; done) | (simp [*]; done)), (by first | rfl | (simp; done) | (simp [*]; done)), H', ⟨Nat.le_refl _⟩, ⟨by (with_reducible repeat (first | apply Kd.R_alloc | apply Kd.R_drewN | apply Kd.R_drew)); exact HO_319000.out⟩, ⟨by (with_reducible repeat (first | apply Kd.R_alloc | apply Kd.R_drewN | apply Kd.R_drew)); exact HO_319001.out⟩, ⟨by (with_reducible repeat (first | apply Kd.R_alloc | apply Kd.R_drewN | apply Kd.R_drew)); exact HO_319002.out⟩, ⟨by (with_reducible repeat (first | refine blk_drewN ?_ _ | refine blk_drew ?_ | refine blk_alloc ?_ _)); exact BK318.out⟩, ⟨by repeat (first | (with_reducible first | exact HB.out | apply below_alloc | apply pw_below_drewN | apply below_drew1 | refine below_set ?_ GE318.out) | exact HB.out)⟩⟩
                             case round =>
                              clear H'
                              try clear p2
                              try clear p3
                              try clear q3
                              try clear hx3
                              try clear c5
                              try clear c6
                              try clear p6
                              try clear p33
                              try clear q33
                              try clear hx33
                              try clear c55
                              try clear c55b0
                              try clear c59
                              try clear c60
                              try clear c61
                              try clear c62
                              try clear c62b0
                              try clear c62b1
                              try clear c62b2
                              try clear c64
                              try clear p64
                              try clear c65
                              try clear hcz68_0
                              try clear hcz68_1
                              try clear hcz68_2
                              try clear hcz70_0
                              try clear hcz70_1
                              try clear hcz70_2
                              try clear hfz68_0
                              try clear hfz68_1
                              try clear hfz68_2
                              try clear hfz70_0
                              try clear hfz70_1
                              try clear hfz70_2
                              try clear hx332_0
                              try clear hx332_1
                              try clear hx332_2
                              try clear hx332_3
                              try clear hx333_0
                              try clear hx333_1
                              try clear hx333_10
                              try clear hx333_11
                              try clear hx333_12
                              try clear hx333_2
                              try clear hx333_3
                              try clear hx333_4
                              try clear hx333_5
                              try clear hx333_6
                              try clear hx333_7
                              try clear hx333_8
                              try clear hx333_9
                              try clear hx334_0
                              try clear hx334_1
                              try clear hx334_2
                              try clear hx334_3
                              try clear hx335_0
                              try clear hx335_1
                              try clear hx335_10
                              try clear hx335_11
                              try clear hx335_12
                              try clear hx335_2
                              try clear hx335_3
                              try clear hx335_4
                              try clear hx335_5
                              try clear hx335_6
                              try clear hx335_7
                              try clear hx335_8
                              try clear hx335_9
                              try clear p332
                              try clear p333
                              try clear p334
                              try clear p335
                              try clear q332
                              try clear q333
                              try clear q334
                              try clear q335
                              obtain ⟨x12_6, x13_6, rfl, rfl, HA, HK6, HO_319000, HO_319001, HO_319002, BK318, HB⟩ := hrel
                              cases gk with
                              | zero => exact absurd HA.out (by simp [seneschallaw17_PastParts.l5])
                              | succ k6 =>
                               have H := HA.out
                               clear HA
                               simp only [seneschallaw17_PastParts.l5] at H
                               by_cases c71 : x13_6 < (t312.length : Int)
                               · rw [if_pos c71] at H
                                 have c71b0 : decide (x13_6 < (t312.length : Int)) = true := decide_eq_true c71
                                 clear c71
                                 by_cases c72 : 0 ≤ x13_6
                                 · rw [if_pos c72] at H
                                   have c72b0 : decide (0 ≤ x13_6) = true := decide_eq_true c72
                                   clear c72
                                   by_cases c73 : 0 ≤ x6_3
                                   · rw [if_pos c73] at H
                                     have c73b0 : decide (0 ≤ x6_3) = true := decide_eq_true c73
                                     clear c73
                                     by_cases c74 : x6_3 < (l0.length : Int)
                                     · rw [if_pos c74] at H
                                       have c74b0 : decide (x6_3 < (l0.length : Int)) = true := decide_eq_true c74
                                       clear c74
                                       by_cases c75 : (((rd_T24 t312 x13_6).f0) == ((rd_T31 l0 x6_3).f1.f0) && (((rd_T24 t312 x13_6).f1) == ((rd_T31 l0 x6_3).f1.f1) && (((rd_T24 t312 x13_6).f2) == ((rd_T31 l0 x6_3).f1.f2)))) = true
                                       · rw [if_pos c75] at H
                                         have c75b0 : (((rd_T24 t312 x13_6).f0) == ((rd_T31 l0 x6_3).f1.f0) && (((rd_T24 t312 x13_6).f1) == ((rd_T31 l0 x6_3).f1.f1) && (((rd_T24 t312 x13_6).f2) == ((rd_T31 l0 x6_3).f1.f2)))) = true := c75
                                         (try (have c75b1 : decide (((rd_T24 t312 x13_6).f0) = ((rd_T31 l0 x6_3).f1.f0) && (((rd_T24 t312 x13_6).f1) == ((rd_T31 l0 x6_3).f1.f1) && (((rd_T24 t312 x13_6).f2) == ((rd_T31 l0 x6_3).f1.f2)))) = true := by simpa using c75))
                                         (try (have c75b2 : (((rd_T24 t312 x13_6).f0) == ((rd_T31 l0 x6_3).f1.f0) && (((rd_T24 t312 x13_6).f1) == ((rd_T31 l0 x6_3).f1.f1) && (((rd_T24 t312 x13_6).f2) == ((rd_T31 l0 x6_3).f1.f2)))) = true := by simpa using c75))
                                         clear c75
                                         have H' := Aside0.mk H
                                         clear H
                                         have hcz76_0 : wr.cell? ⟨gb318, 0, none⟩ = some (.slice Ao11 t309.length co11) := (blk_cell BK318.out 0).trans rfl
                                         have hcz76_1 : wr.cell? ⟨gb318, 1, none⟩ = some (.slice Ao13 t312.length co13) := (blk_cell BK318.out 1).trans rfl
                                         have hcz76_2 : wr.cell? ⟨gb318, 2, none⟩ = some (.slice Ao14 t315.length co14) := (blk_cell BK318.out 2).trans rfl
                                         have hfz76_0 := blk_frozen BK318.out 0
                                         have hfz76_1 := blk_frozen BK318.out 1
                                         have hfz76_2 := blk_frozen BK318.out 2
                                         try go_wp2
                                         have n0_ := Aside0.mk (Kd.R_drew HO_319000.out)
                                         have n1_ := Aside0.mk (Kd.R_drew HO_319001.out)
                                         have n2_ := Aside0.mk (Kd.R_drew HO_319002.out)
                                         have n3_ := Aside0.mk (blk_drew BK318.out)
                                         have n4_ := Aside0.mk (below_drew1 HB.out)
                                         clear HO_319000
                                         clear HO_319001
                                         clear HO_319002
                                         clear BK318
                                         clear HB
                                         have HO_319000 := n0_
                                         have HO_319001 := n1_
                                         have HO_319002 := n2_
                                         have BK318 := n3_
                                         have HB := n4_
                                         clear n0_ n1_ n2_ n3_ n4_
                                         have p336 : 0 ≤ (x13_6 : Int) := of_decide_eq_true (by first | (with_reducible assumption) | assumption)
                                         have q336 : x13_6 < (t312.length : Int) := of_decide_eq_true (by first | (with_reducible assumption) | assumption)
                                         obtain ⟨ad336, e336, hx336_0, hx336_1, hx336_2⟩ := at_T24 (Kd.R_reads' HO_319001.out).2.2 x13_6 p336 q336
                                         cases e336
                                         replace p336 := eq_true p336
                                         replace q336 := eq_true q336
                                         have p337 : 0 ≤ (x6_3 : Int) := of_decide_eq_true (by first | (with_reducible assumption) | assumption)
                                         have q337 : x6_3 < (l0.length : Int) := of_decide_eq_true (by first | (with_reducible assumption) | assumption)
                                         obtain ⟨ad337, e337, hx337_0, hx337_1, hx337_2, hx337_3, hx337_4, hx337_5, hx337_6, hx337_7, hx337_8, hx337_9, hx337_10, hx337_11, hx337_12⟩ := at_T31 HR0.out x6_3 p337 q337
                                         have hw337_12 := hx337_12
                                         have hw337_11 := hx337_11
                                         have hw337_10 := hx337_10
                                         have hw337_9 := hx337_9
                                         have hw337_8 := hx337_8
                                         have hw337_7 := hx337_7
                                         have hw337_6 := hx337_6
                                         have hw337_5 := hx337_5
                                         have hw337_4 := hx337_4
                                         have hw337_3 := hx337_3
                                         have hw337_2 := hx337_2
                                         have hw337_1 := hx337_1
                                         have hw337_0 := hx337_0
                                         obtain rfl : ad324 = ad337 := (by injection e337)
                                         replace hx337_0 := (HB.out.cell (World.block_lt_of_cell? w _ hx337_0)).trans hx337_0
                                         replace hx337_1 := (HB.out.cell (World.block_lt_of_cell? w _ hx337_1)).trans hx337_1
                                         replace hx337_2 := (HB.out.cell (World.block_lt_of_cell? w _ hx337_2)).trans hx337_2
                                         replace hx337_3 := (HB.out.cell (World.block_lt_of_cell? w _ hx337_3)).trans hx337_3
                                         replace hx337_4 := (HB.out.cell (World.block_lt_of_cell? w _ hx337_4)).trans hx337_4
                                         replace hx337_5 := (HB.out.cell (World.block_lt_of_cell? w _ hx337_5)).trans hx337_5
                                         replace hx337_6 := (HB.out.cell (World.block_lt_of_cell? w _ hx337_6)).trans hx337_6
                                         replace hx337_7 := (HB.out.cell (World.block_lt_of_cell? w _ hx337_7)).trans hx337_7
                                         replace hx337_8 := (HB.out.cell (World.block_lt_of_cell? w _ hx337_8)).trans hx337_8
                                         replace hx337_9 := (HB.out.cell (World.block_lt_of_cell? w _ hx337_9)).trans hx337_9
                                         replace hx337_10 := (HB.out.cell (World.block_lt_of_cell? w _ hx337_10)).trans hx337_10
                                         replace hx337_11 := (HB.out.cell (World.block_lt_of_cell? w _ hx337_11)).trans hx337_11
                                         replace hx337_12 := (HB.out.cell (World.block_lt_of_cell? w _ hx337_12)).trans hx337_12
                                         replace p337 := eq_true p337
                                         replace q337 := eq_true q337
                                         refine start_ (n := 11) (S := fun w' => w'.cell? ⟨gb318, 0, none⟩ = some (.slice Ao11 t309.length co11) ∧ w'.cell? ⟨gb318, 1, none⟩ = some (.slice (some ad336) t312.length co13) ∧ w'.cell? ⟨gb318, 2, none⟩ = some (.slice Ao14 t315.length co14) ∧ w'.cell? (ad336.add ((x13_6).toNat * 3)) = some (.int .i64 ((rd_T24 t312 x13_6).f0)) ∧ w'.cell? ⟨(ad336.add ((x13_6).toNat * 3)).block, (ad336.add ((x13_6).toNat * 3)).off + 1, none⟩ = some (.int .i64 ((rd_T24 t312 x13_6).f1)) ∧ w'.cell? ⟨(ad336.add ((x13_6).toNat * 3)).block, (ad336.add ((x13_6).toNat * 3)).off + 2, none⟩ = some (.int .i64 ((rd_T24 t312 x13_6).f2)) ∧ w'.cell? (ad324.add ((x6_3).toNat * 13)) = some (.int .i64 ((rd_T31 l0 x6_3).f0)) ∧ w'.cell? ⟨(ad324.add ((x6_3).toNat * 13)).block, (ad324.add ((x6_3).toNat * 13)).off + 1, none⟩ = some (.int .i64 ((rd_T31 l0 x6_3).f1.f0)) ∧ w'.cell? ⟨(ad324.add ((x6_3).toNat * 13)).block, (ad324.add ((x6_3).toNat * 13)).off + 2, none⟩ = some (.int .i64 ((rd_T31 l0 x6_3).f1.f1)) ∧ w'.cell? ⟨(ad324.add ((x6_3).toNat * 13)).block, (ad324.add ((x6_3).toNat * 13)).off + 3, none⟩ = some (.int .i64 ((rd_T31 l0 x6_3).f1.f2)) ∧ w'.cell? ⟨(ad324.add ((x6_3).toNat * 13)).block, (ad324.add ((x6_3).toNat * 13)).off + 4, none⟩ = some (.int .i64 ((rd_T31 l0 x6_3).f2)) ∧ w'.cell? ⟨(ad324.add ((x6_3).toNat * 13)).block, (ad324.add ((x6_3).toNat * 13)).off + 5, none⟩ = some (.int .i64 ((rd_T31 l0 x6_3).f3)) ∧ w'.cell? ⟨(ad324.add ((x6_3).toNat * 13)).block, (ad324.add ((x6_3).toNat * 13)).off + 6, none⟩ = some (.int .i64 ((rd_T31 l0 x6_3).f4)) ∧ w'.cell? ⟨(ad324.add ((x6_3).toNat * 13)).block, (ad324.add ((x6_3).toNat * 13)).off + 7, none⟩ = some (.int .i64 ((rd_T31 l0 x6_3).f5)) ∧ w'.cell? ⟨(ad324.add ((x6_3).toNat * 13)).block, (ad324.add ((x6_3).toNat * 13)).off + 8, none⟩ = some (.bool ((rd_T31 l0 x6_3).f6.f0)) ∧ w'.cell? ⟨(ad324.add ((x6_3).toNat * 13)).block, (ad324.add ((x6_3).toNat * 13)).off + 9, none⟩ = some (.string ((rd_T31 l0 x6_3).f6.f1)) ∧ w'.cell? ⟨(ad324.add ((x6_3).toNat * 13)).block, (ad324.add ((x6_3).toNat * 13)).off + 10, none⟩ = some (.bool ((rd_T31 l0 x6_3).f7.f0)) ∧ w'.cell? ⟨(ad324.add ((x6_3).toNat * 13)).block, (ad324.add ((x6_3).toNat * 13)).off + 11, none⟩ = some (.string ((rd_T31 l0 x6_3).f7.f1)) ∧ w'.cell? ⟨(ad324.add ((x6_3).toNat * 13)).block, (ad324.add ((x6_3).toNat * 13)).off + 12, none⟩ = some (.int .i64 ((rd_T31 l0 x6_3).f8))) (ds := []) #[false, false, false, false, false, false, false, false, false, false, false] (by kernel_rfl) rfl rfl ⟨(blk_cell BK318.out 0).trans rfl, (blk_cell BK318.out 1).trans rfl, (blk_cell BK318.out 2).trans rfl, hx336_0, hx336_1, hx336_2, ((HB.out.cell (World.block_lt_of_cell? w _ hw337_0)).trans hw337_0), ((HB.out.cell (World.block_lt_of_cell? w _ hw337_1)).trans hw337_1), ((HB.out.cell (World.block_lt_of_cell? w _ hw337_2)).trans hw337_2), ((HB.out.cell (World.block_lt_of_cell? w _ hw337_3)).trans hw337_3), ((HB.out.cell (World.block_lt_of_cell? w _ hw337_4)).trans hw337_4), ((HB.out.cell (World.block_lt_of_cell? w _ hw337_5)).trans hw337_5), ((HB.out.cell (World.block_lt_of_cell? w _ hw337_6)).trans hw337_6), ((HB.out.cell (World.block_lt_of_cell? w _ hw337_7)).trans hw337_7), ((HB.out.cell (World.block_lt_of_cell? w _ hw337_8)).trans hw337_8), ((HB.out.cell (World.block_lt_of_cell? w _ hw337_9)).trans hw337_9), ((HB.out.cell (World.block_lt_of_cell? w _ hw337_10)).trans hw337_10), ((HB.out.cell (World.block_lt_of_cell? w _ hw337_11)).trans hw337_11), ((HB.out.cell (World.block_lt_of_cell? w _ hw337_12)).trans hw337_12)⟩ (fun hHeld => ?_); refine with_tabW seneschallaw17_PastParts.tab35 seneschallaw17_PastParts.bits35 (fun HT_ HW_ => ?_)
                                         generalize wr.drew = w77 at HO_319000 HO_319001 HO_319002 BK318 HB hx336_0 hx336_1 hx336_2 hx337_0 hx337_1 hx337_10 hx337_11 hx337_12 hx337_2 hx337_3 hx337_4 hx337_5 hx337_6 hx337_7 hx337_8 hx337_9 hHeld ⊢
                                         refine pure_ (i := 0) (N := some 150) (v := ?_) (a' := ?_) #[true, false, false, false, false, false, false, false, false, false, false] rfl rfl (any_of HT_.out (by kernel_rfl)) (fun _ _ _ h => h) (Or.inl ⟨by rfl, ?_⟩) ?_ ?_; rotate_left; intro w'; go_simp; with_reducible rfl; rotate_left; simp only [Act.put, List.setIfInBounds_toArray, List.set_cons_zero, List.set_cons_succ, i64_w, i32_w]; rfl
                                         refine pure_ (i := 2) (N := some 152) (v := ?_) (a' := ?_) #[true, false, true, false, false, false, false, false, false, false, false] rfl rfl (any_of HT_.out (by kernel_rfl)) (fun _ _ _ h => h) (Or.inl ⟨by rfl, ?_⟩) ?_ ?_; rotate_left; intro w'; go_simp; with_reducible rfl; rotate_left; simp only [Act.put, List.setIfInBounds_toArray, List.set_cons_zero, List.set_cons_succ, i64_w, i32_w]; rfl
                                         refine pure_ (i := 5) (N := some 155) (v := ?_) (a' := ?_) #[true, false, true, false, false, true, false, false, false, false, false] rfl rfl (any_of HT_.out (by kernel_rfl)) (fun _ _ _ h => h) (Or.inl ⟨by rfl, ?_⟩) ?_ ?_; rotate_left; intro w'; go_simp; with_reducible rfl; rotate_left; simp only [Act.put, List.setIfInBounds_toArray, List.set_cons_zero, List.set_cons_succ, i64_w, i32_w]; rfl
                                         refine pure_ (i := 6) (N := some 156) (v := ?_) (a' := ?_) #[true, false, true, false, false, true, true, false, false, false, false] rfl rfl (any_of HT_.out (by kernel_rfl)) (fun _ _ _ h => h) (Or.inl ⟨by rfl, ?_⟩) ?_ ?_; rotate_left; intro w'; go_simp; with_reducible rfl; rotate_left; simp only [Act.put, List.setIfInBounds_toArray, List.set_cons_zero, List.set_cons_succ, i64_w, i32_w]; rfl
                                         refine pure_ (i := 7) (N := some 157) (v := ?_) (a' := ?_) #[true, false, true, false, false, true, true, true, false, false, false] rfl rfl (any_of HT_.out (by kernel_rfl)) (fun _ _ _ h => h) (Or.inl ⟨by rfl, ?_⟩) ?_ ?_; rotate_left; intro w'; go_simp; with_reducible rfl; rotate_left; simp only [Act.put, List.setIfInBounds_toArray, List.set_cons_zero, List.set_cons_succ, i64_w, i32_w]; rfl
                                         refine pure_ (i := 8) (N := some 158) (v := ?_) (a' := ?_) #[true, false, true, false, false, true, true, true, true, false, false] rfl rfl (any_of HT_.out (by kernel_rfl)) (fun _ _ _ h => h) (Or.inl ⟨by rfl, ?_⟩) ?_ ?_; rotate_left; intro w'; go_simp; with_reducible rfl; rotate_left; simp only [Act.put, List.setIfInBounds_toArray, List.set_cons_zero, List.set_cons_succ, i64_w, i32_w]; rfl
                                         refine take_ (i := 1) (N := some 151) (v := ?_) (a' := ?_) #[true, true, true, false, false, true, true, true, true, false, false] rfl rfl (take_ofW HT_.out HW_.out (by kernel_rfl)) (fun _ _ _ h => h) (Or.inl ⟨by rfl, ?_⟩) hHeld ?_ ?_; rotate_left; rintro w' ⟨s0, s1, s2, s3, s4, s5, s6, s7, s8, s9, s10, s11, s12, s13, s14, s15, s16, s17, s18⟩; go_simp; with_reducible rfl; rotate_left; simp only [Act.put, List.setIfInBounds_toArray, List.set_cons_zero, List.set_cons_succ, i64_w, i32_w]; rfl
                                         refine pure_ (i := 3) (N := some 153) (v := ?_) (a' := ?_) #[true, true, true, true, false, true, true, true, true, false, false] rfl rfl (any_of HT_.out (by kernel_rfl)) (fun _ _ _ h => h) (Or.inl ⟨by rfl, ?_⟩) ?_ ?_; rotate_left; intro w'; go_simp; with_reducible rfl; rotate_left; simp only [Act.put, List.setIfInBounds_toArray, List.set_cons_zero, List.set_cons_succ, i64_w, i32_w]; rfl
                                         refine take_ (i := 4) (N := some 154) (v := ?_) (a' := ?_) #[true, true, true, true, true, true, true, true, true, false, false] rfl rfl (take_ofW HT_.out HW_.out (by kernel_rfl)) (fun _ _ _ h => h) (Or.inl ⟨by rfl, ?_⟩) hHeld ?_ ?_; rotate_left; rintro w' ⟨s0, s1, s2, s3, s4, s5, s6, s7, s8, s9, s10, s11, s12, s13, s14, s15, s16, s17, s18⟩; go_simp; with_reducible rfl; rotate_left; simp only [Act.put, List.setIfInBounds_toArray, List.set_cons_zero, List.set_cons_succ, i64_w, i32_w]; rfl
                                         refine take_ (i := 9) (N := some 159) (v := ?_) (a' := ?_) #[true, true, true, true, true, true, true, true, true, true, false] rfl rfl (take_ofW HT_.out HW_.out (by kernel_rfl)) (fun _ _ _ h => h) (Or.inl ⟨by rfl, ?_⟩) hHeld ?_ ?_; rotate_left; rintro w' ⟨s0, s1, s2, s3, s4, s5, s6, s7, s8, s9, s10, s11, s12, s13, s14, s15, s16, s17, s18⟩; go_simp; with_reducible rfl; rotate_left; simp only [Act.put, List.setIfInBounds_toArray, List.set_cons_zero, List.set_cons_succ, i64_w, i32_w]; rfl
                                         refine pure_ (i := 10) (N := some 160) (v := ?_) (a' := ?_) #[true, true, true, true, true, true, true, true, true, true, true] rfl rfl (any_of HT_.out (by kernel_rfl)) (fun _ _ _ h => h) (Or.inl ⟨by rfl, ?_⟩) ?_ ?_; rotate_left; intro w'; go_simp; with_reducible rfl; rotate_left; simp only [Act.put, List.setIfInBounds_toArray, List.set_cons_zero, List.set_cons_succ, i64_w, i32_w]; rfl
                                         refine done_ (done_of HT_.out (by kernel_rfl)) ?_
                                         try go_wp2
                                         go_roundg k6
                                         case measure => have := HK1.out; have := HK2.out; have := HK3.out; have := HK4.out; have := HK5.out; have := HK6.out; omega
                                         case rel => exact ⟨(wrap64 (x12_6 + 1)), (wrap64 (x13_6 + 1)), (by first | rfl | (simp; done) | (simp [*]; done)), (by first | rfl | (simp; done) | (simp [*]; done)), H', ⟨by have := HK1.out; have := HK2.out; have := HK3.out; have := HK4.out; have := HK5.out; have := HK6.out; omega⟩, ⟨by (with_reducible repeat (first | apply Kd.R_alloc | apply Kd.R_drewN | apply Kd.R_drew)); exact HO_319000.out⟩, ⟨by (with_reducible repeat (first | apply Kd.R_alloc | apply Kd.R_drewN | apply Kd.R_drew)); exact HO_319001.out⟩, ⟨by (with_reducible repeat (first | apply Kd.R_alloc | apply Kd.R_drewN | apply Kd.R_drew)); exact HO_319002.out⟩, ⟨by (with_reducible repeat (first | refine blk_drewN ?_ _ | refine blk_drew ?_ | refine blk_alloc ?_ _)); exact BK318.out⟩, ⟨by repeat (first | (with_reducible first | exact HB.out | apply below_alloc | apply pw_below_drewN | apply below_drew1 | refine below_set ?_ GE318.out) | exact HB.out)⟩⟩
                                       · rw [if_neg c75] at H
                                         have c75b0 : (((rd_T24 t312 x13_6).f0) == ((rd_T31 l0 x6_3).f1.f0) && (((rd_T24 t312 x13_6).f1) == ((rd_T31 l0 x6_3).f1.f1) && (((rd_T24 t312 x13_6).f2) == ((rd_T31 l0 x6_3).f1.f2)))) = false := by simpa using c75
                                         (try (have c75b1 : decide (((rd_T24 t312 x13_6).f0) = ((rd_T31 l0 x6_3).f1.f0) && (((rd_T24 t312 x13_6).f1) == ((rd_T31 l0 x6_3).f1.f1) && (((rd_T24 t312 x13_6).f2) == ((rd_T31 l0 x6_3).f1.f2)))) = false := by simpa using c75))
                                         (try (have c75b2 : (((rd_T24 t312 x13_6).f0) == ((rd_T31 l0 x6_3).f1.f0) && (((rd_T24 t312 x13_6).f1) == ((rd_T31 l0 x6_3).f1.f1) && (((rd_T24 t312 x13_6).f2) == ((rd_T31 l0 x6_3).f1.f2)))) = false := by simpa using c75))
                                         (try (have c75b3 : ¬ (((rd_T24 t312 x13_6).f0) = ((rd_T31 l0 x6_3).f1.f0) && (((rd_T24 t312 x13_6).f1) == ((rd_T31 l0 x6_3).f1.f1) && (((rd_T24 t312 x13_6).f2) == ((rd_T31 l0 x6_3).f1.f2)))) := by simpa using c75))
                                         clear c75
                                         have H' := Aside0.mk H
                                         clear H
                                         have hcz78_0 : wr.cell? ⟨gb318, 0, none⟩ = some (.slice Ao11 t309.length co11) := (blk_cell BK318.out 0).trans rfl
                                         have hcz78_1 : wr.cell? ⟨gb318, 1, none⟩ = some (.slice Ao13 t312.length co13) := (blk_cell BK318.out 1).trans rfl
                                         have hcz78_2 : wr.cell? ⟨gb318, 2, none⟩ = some (.slice Ao14 t315.length co14) := (blk_cell BK318.out 2).trans rfl
                                         have hfz78_0 := blk_frozen BK318.out 0
                                         have hfz78_1 := blk_frozen BK318.out 1
                                         have hfz78_2 := blk_frozen BK318.out 2
                                         try go_wp2
                                         have n0_ := Aside0.mk (Kd.R_drew HO_319000.out)
                                         have n1_ := Aside0.mk (Kd.R_drew HO_319001.out)
                                         have n2_ := Aside0.mk (Kd.R_drew HO_319002.out)
                                         have n3_ := Aside0.mk (blk_drew BK318.out)
                                         have n4_ := Aside0.mk (below_drew1 HB.out)
                                         clear HO_319000
                                         clear HO_319001
                                         clear HO_319002
                                         clear BK318
                                         clear HB
                                         have HO_319000 := n0_
                                         have HO_319001 := n1_
                                         have HO_319002 := n2_
                                         have BK318 := n3_
                                         have HB := n4_
                                         clear n0_ n1_ n2_ n3_ n4_
                                         have p336 : 0 ≤ (x13_6 : Int) := of_decide_eq_true (by first | (with_reducible assumption) | assumption)
                                         have q336 : x13_6 < (t312.length : Int) := of_decide_eq_true (by first | (with_reducible assumption) | assumption)
                                         obtain ⟨ad336, e336, hx336_0, hx336_1, hx336_2⟩ := at_T24 (Kd.R_reads' HO_319001.out).2.2 x13_6 p336 q336
                                         cases e336
                                         replace p336 := eq_true p336
                                         replace q336 := eq_true q336
                                         have p337 : 0 ≤ (x6_3 : Int) := of_decide_eq_true (by first | (with_reducible assumption) | assumption)
                                         have q337 : x6_3 < (l0.length : Int) := of_decide_eq_true (by first | (with_reducible assumption) | assumption)
                                         obtain ⟨ad337, e337, hx337_0, hx337_1, hx337_2, hx337_3, hx337_4, hx337_5, hx337_6, hx337_7, hx337_8, hx337_9, hx337_10, hx337_11, hx337_12⟩ := at_T31 HR0.out x6_3 p337 q337
                                         have hw337_12 := hx337_12
                                         have hw337_11 := hx337_11
                                         have hw337_10 := hx337_10
                                         have hw337_9 := hx337_9
                                         have hw337_8 := hx337_8
                                         have hw337_7 := hx337_7
                                         have hw337_6 := hx337_6
                                         have hw337_5 := hx337_5
                                         have hw337_4 := hx337_4
                                         have hw337_3 := hx337_3
                                         have hw337_2 := hx337_2
                                         have hw337_1 := hx337_1
                                         have hw337_0 := hx337_0
                                         obtain rfl : ad324 = ad337 := (by injection e337)
                                         replace hx337_0 := (HB.out.cell (World.block_lt_of_cell? w _ hx337_0)).trans hx337_0
                                         replace hx337_1 := (HB.out.cell (World.block_lt_of_cell? w _ hx337_1)).trans hx337_1
                                         replace hx337_2 := (HB.out.cell (World.block_lt_of_cell? w _ hx337_2)).trans hx337_2
                                         replace hx337_3 := (HB.out.cell (World.block_lt_of_cell? w _ hx337_3)).trans hx337_3
                                         replace hx337_4 := (HB.out.cell (World.block_lt_of_cell? w _ hx337_4)).trans hx337_4
                                         replace hx337_5 := (HB.out.cell (World.block_lt_of_cell? w _ hx337_5)).trans hx337_5
                                         replace hx337_6 := (HB.out.cell (World.block_lt_of_cell? w _ hx337_6)).trans hx337_6
                                         replace hx337_7 := (HB.out.cell (World.block_lt_of_cell? w _ hx337_7)).trans hx337_7
                                         replace hx337_8 := (HB.out.cell (World.block_lt_of_cell? w _ hx337_8)).trans hx337_8
                                         replace hx337_9 := (HB.out.cell (World.block_lt_of_cell? w _ hx337_9)).trans hx337_9
                                         replace hx337_10 := (HB.out.cell (World.block_lt_of_cell? w _ hx337_10)).trans hx337_10
                                         replace hx337_11 := (HB.out.cell (World.block_lt_of_cell? w _ hx337_11)).trans hx337_11
                                         replace hx337_12 := (HB.out.cell (World.block_lt_of_cell? w _ hx337_12)).trans hx337_12
                                         replace p337 := eq_true p337
                                         replace q337 := eq_true q337
                                         refine start_ (n := 11) (S := fun w' => w'.cell? ⟨gb318, 0, none⟩ = some (.slice Ao11 t309.length co11) ∧ w'.cell? ⟨gb318, 1, none⟩ = some (.slice (some ad336) t312.length co13) ∧ w'.cell? ⟨gb318, 2, none⟩ = some (.slice Ao14 t315.length co14) ∧ w'.cell? (ad336.add ((x13_6).toNat * 3)) = some (.int .i64 ((rd_T24 t312 x13_6).f0)) ∧ w'.cell? ⟨(ad336.add ((x13_6).toNat * 3)).block, (ad336.add ((x13_6).toNat * 3)).off + 1, none⟩ = some (.int .i64 ((rd_T24 t312 x13_6).f1)) ∧ w'.cell? ⟨(ad336.add ((x13_6).toNat * 3)).block, (ad336.add ((x13_6).toNat * 3)).off + 2, none⟩ = some (.int .i64 ((rd_T24 t312 x13_6).f2)) ∧ w'.cell? (ad324.add ((x6_3).toNat * 13)) = some (.int .i64 ((rd_T31 l0 x6_3).f0)) ∧ w'.cell? ⟨(ad324.add ((x6_3).toNat * 13)).block, (ad324.add ((x6_3).toNat * 13)).off + 1, none⟩ = some (.int .i64 ((rd_T31 l0 x6_3).f1.f0)) ∧ w'.cell? ⟨(ad324.add ((x6_3).toNat * 13)).block, (ad324.add ((x6_3).toNat * 13)).off + 2, none⟩ = some (.int .i64 ((rd_T31 l0 x6_3).f1.f1)) ∧ w'.cell? ⟨(ad324.add ((x6_3).toNat * 13)).block, (ad324.add ((x6_3).toNat * 13)).off + 3, none⟩ = some (.int .i64 ((rd_T31 l0 x6_3).f1.f2)) ∧ w'.cell? ⟨(ad324.add ((x6_3).toNat * 13)).block, (ad324.add ((x6_3).toNat * 13)).off + 4, none⟩ = some (.int .i64 ((rd_T31 l0 x6_3).f2)) ∧ w'.cell? ⟨(ad324.add ((x6_3).toNat * 13)).block, (ad324.add ((x6_3).toNat * 13)).off + 5, none⟩ = some (.int .i64 ((rd_T31 l0 x6_3).f3)) ∧ w'.cell? ⟨(ad324.add ((x6_3).toNat * 13)).block, (ad324.add ((x6_3).toNat * 13)).off + 6, none⟩ = some (.int .i64 ((rd_T31 l0 x6_3).f4)) ∧ w'.cell? ⟨(ad324.add ((x6_3).toNat * 13)).block, (ad324.add ((x6_3).toNat * 13)).off + 7, none⟩ = some (.int .i64 ((rd_T31 l0 x6_3).f5)) ∧ w'.cell? ⟨(ad324.add ((x6_3).toNat * 13)).block, (ad324.add ((x6_3).toNat * 13)).off + 8, none⟩ = some (.bool ((rd_T31 l0 x6_3).f6.f0)) ∧ w'.cell? ⟨(ad324.add ((x6_3).toNat * 13)).block, (ad324.add ((x6_3).toNat * 13)).off + 9, none⟩ = some (.string ((rd_T31 l0 x6_3).f6.f1)) ∧ w'.cell? ⟨(ad324.add ((x6_3).toNat * 13)).block, (ad324.add ((x6_3).toNat * 13)).off + 10, none⟩ = some (.bool ((rd_T31 l0 x6_3).f7.f0)) ∧ w'.cell? ⟨(ad324.add ((x6_3).toNat * 13)).block, (ad324.add ((x6_3).toNat * 13)).off + 11, none⟩ = some (.string ((rd_T31 l0 x6_3).f7.f1)) ∧ w'.cell? ⟨(ad324.add ((x6_3).toNat * 13)).block, (ad324.add ((x6_3).toNat * 13)).off + 12, none⟩ = some (.int .i64 ((rd_T31 l0 x6_3).f8))) (ds := []) #[false, false, false, false, false, false, false, false, false, false, false] (by kernel_rfl) rfl rfl ⟨(blk_cell BK318.out 0).trans rfl, (blk_cell BK318.out 1).trans rfl, (blk_cell BK318.out 2).trans rfl, hx336_0, hx336_1, hx336_2, ((HB.out.cell (World.block_lt_of_cell? w _ hw337_0)).trans hw337_0), ((HB.out.cell (World.block_lt_of_cell? w _ hw337_1)).trans hw337_1), ((HB.out.cell (World.block_lt_of_cell? w _ hw337_2)).trans hw337_2), ((HB.out.cell (World.block_lt_of_cell? w _ hw337_3)).trans hw337_3), ((HB.out.cell (World.block_lt_of_cell? w _ hw337_4)).trans hw337_4), ((HB.out.cell (World.block_lt_of_cell? w _ hw337_5)).trans hw337_5), ((HB.out.cell (World.block_lt_of_cell? w _ hw337_6)).trans hw337_6), ((HB.out.cell (World.block_lt_of_cell? w _ hw337_7)).trans hw337_7), ((HB.out.cell (World.block_lt_of_cell? w _ hw337_8)).trans hw337_8), ((HB.out.cell (World.block_lt_of_cell? w _ hw337_9)).trans hw337_9), ((HB.out.cell (World.block_lt_of_cell? w _ hw337_10)).trans hw337_10), ((HB.out.cell (World.block_lt_of_cell? w _ hw337_11)).trans hw337_11), ((HB.out.cell (World.block_lt_of_cell? w _ hw337_12)).trans hw337_12)⟩ (fun hHeld => ?_); refine with_tabW seneschallaw17_PastParts.tab35 seneschallaw17_PastParts.bits35 (fun HT_ HW_ => ?_)
                                         generalize wr.drew = w79 at HO_319000 HO_319001 HO_319002 BK318 HB hx336_0 hx336_1 hx336_2 hx337_0 hx337_1 hx337_10 hx337_11 hx337_12 hx337_2 hx337_3 hx337_4 hx337_5 hx337_6 hx337_7 hx337_8 hx337_9 hHeld ⊢
                                         refine pure_ (i := 0) (N := some 150) (v := ?_) (a' := ?_) #[true, false, false, false, false, false, false, false, false, false, false] rfl rfl (any_of HT_.out (by kernel_rfl)) (fun _ _ _ h => h) (Or.inl ⟨by rfl, ?_⟩) ?_ ?_; rotate_left; intro w'; go_simp; with_reducible rfl; rotate_left; simp only [Act.put, List.setIfInBounds_toArray, List.set_cons_zero, List.set_cons_succ, i64_w, i32_w]; rfl
                                         refine pure_ (i := 2) (N := some 152) (v := ?_) (a' := ?_) #[true, false, true, false, false, false, false, false, false, false, false] rfl rfl (any_of HT_.out (by kernel_rfl)) (fun _ _ _ h => h) (Or.inl ⟨by rfl, ?_⟩) ?_ ?_; rotate_left; intro w'; go_simp; with_reducible rfl; rotate_left; simp only [Act.put, List.setIfInBounds_toArray, List.set_cons_zero, List.set_cons_succ, i64_w, i32_w]; rfl
                                         refine pure_ (i := 5) (N := some 155) (v := ?_) (a' := ?_) #[true, false, true, false, false, true, false, false, false, false, false] rfl rfl (any_of HT_.out (by kernel_rfl)) (fun _ _ _ h => h) (Or.inl ⟨by rfl, ?_⟩) ?_ ?_; rotate_left; intro w'; go_simp; with_reducible rfl; rotate_left; simp only [Act.put, List.setIfInBounds_toArray, List.set_cons_zero, List.set_cons_succ, i64_w, i32_w]; rfl
                                         refine pure_ (i := 6) (N := some 156) (v := ?_) (a' := ?_) #[true, false, true, false, false, true, true, false, false, false, false] rfl rfl (any_of HT_.out (by kernel_rfl)) (fun _ _ _ h => h) (Or.inl ⟨by rfl, ?_⟩) ?_ ?_; rotate_left; intro w'; go_simp; with_reducible rfl; rotate_left; simp only [Act.put, List.setIfInBounds_toArray, List.set_cons_zero, List.set_cons_succ, i64_w, i32_w]; rfl
                                         refine pure_ (i := 7) (N := some 157) (v := ?_) (a' := ?_) #[true, false, true, false, false, true, true, true, false, false, false] rfl rfl (any_of HT_.out (by kernel_rfl)) (fun _ _ _ h => h) (Or.inl ⟨by rfl, ?_⟩) ?_ ?_; rotate_left; intro w'; go_simp; with_reducible rfl; rotate_left; simp only [Act.put, List.setIfInBounds_toArray, List.set_cons_zero, List.set_cons_succ, i64_w, i32_w]; rfl
                                         refine pure_ (i := 8) (N := some 158) (v := ?_) (a' := ?_) #[true, false, true, false, false, true, true, true, true, false, false] rfl rfl (any_of HT_.out (by kernel_rfl)) (fun _ _ _ h => h) (Or.inl ⟨by rfl, ?_⟩) ?_ ?_; rotate_left; intro w'; go_simp; with_reducible rfl; rotate_left; simp only [Act.put, List.setIfInBounds_toArray, List.set_cons_zero, List.set_cons_succ, i64_w, i32_w]; rfl
                                         refine take_ (i := 1) (N := some 151) (v := ?_) (a' := ?_) #[true, true, true, false, false, true, true, true, true, false, false] rfl rfl (take_ofW HT_.out HW_.out (by kernel_rfl)) (fun _ _ _ h => h) (Or.inl ⟨by rfl, ?_⟩) hHeld ?_ ?_; rotate_left; rintro w' ⟨s0, s1, s2, s3, s4, s5, s6, s7, s8, s9, s10, s11, s12, s13, s14, s15, s16, s17, s18⟩; go_simp; with_reducible rfl; rotate_left; simp only [Act.put, List.setIfInBounds_toArray, List.set_cons_zero, List.set_cons_succ, i64_w, i32_w]; rfl
                                         refine pure_ (i := 3) (N := some 153) (v := ?_) (a' := ?_) #[true, true, true, true, false, true, true, true, true, false, false] rfl rfl (any_of HT_.out (by kernel_rfl)) (fun _ _ _ h => h) (Or.inl ⟨by rfl, ?_⟩) ?_ ?_; rotate_left; intro w'; go_simp; with_reducible rfl; rotate_left; simp only [Act.put, List.setIfInBounds_toArray, List.set_cons_zero, List.set_cons_succ, i64_w, i32_w]; rfl
                                         refine take_ (i := 4) (N := some 154) (v := ?_) (a' := ?_) #[true, true, true, true, true, true, true, true, true, false, false] rfl rfl (take_ofW HT_.out HW_.out (by kernel_rfl)) (fun _ _ _ h => h) (Or.inl ⟨by rfl, ?_⟩) hHeld ?_ ?_; rotate_left; rintro w' ⟨s0, s1, s2, s3, s4, s5, s6, s7, s8, s9, s10, s11, s12, s13, s14, s15, s16, s17, s18⟩; go_simp; with_reducible rfl; rotate_left; simp only [Act.put, List.setIfInBounds_toArray, List.set_cons_zero, List.set_cons_succ, i64_w, i32_w]; rfl
                                         refine take_ (i := 9) (N := some 159) (v := ?_) (a' := ?_) #[true, true, true, true, true, true, true, true, true, true, false] rfl rfl (take_ofW HT_.out HW_.out (by kernel_rfl)) (fun _ _ _ h => h) (Or.inl ⟨by rfl, ?_⟩) hHeld ?_ ?_; rotate_left; rintro w' ⟨s0, s1, s2, s3, s4, s5, s6, s7, s8, s9, s10, s11, s12, s13, s14, s15, s16, s17, s18⟩; go_simp; with_reducible rfl; rotate_left; simp only [Act.put, List.setIfInBounds_toArray, List.set_cons_zero, List.set_cons_succ, i64_w, i32_w]; rfl
                                         refine pure_ (i := 10) (N := some 160) (v := ?_) (a' := ?_) #[true, true, true, true, true, true, true, true, true, true, true] rfl rfl (any_of HT_.out (by kernel_rfl)) (fun _ _ _ h => h) (Or.inl ⟨by rfl, ?_⟩) ?_ ?_; rotate_left; intro w'; go_simp; with_reducible rfl; rotate_left; simp only [Act.put, List.setIfInBounds_toArray, List.set_cons_zero, List.set_cons_succ, i64_w, i32_w]; rfl
                                         refine done_ (done_of HT_.out (by kernel_rfl)) ?_
                                         try go_wp2
                                         go_roundg k6
                                         case measure => have := HK1.out; have := HK2.out; have := HK3.out; have := HK4.out; have := HK5.out; have := HK6.out; omega
                                         case rel => exact ⟨(x12_6), (wrap64 (x13_6 + 1)), (by first | rfl | (simp; done) | (simp [*]; done)), (by first | rfl | (simp; done) | (simp [*]; done)), H', ⟨by have := HK1.out; have := HK2.out; have := HK3.out; have := HK4.out; have := HK5.out; have := HK6.out; omega⟩, ⟨by (with_reducible repeat (first | apply Kd.R_alloc | apply Kd.R_drewN | apply Kd.R_drew)); exact HO_319000.out⟩, ⟨by (with_reducible repeat (first | apply Kd.R_alloc | apply Kd.R_drewN | apply Kd.R_drew)); exact HO_319001.out⟩, ⟨by (with_reducible repeat (first | apply Kd.R_alloc | apply Kd.R_drewN | apply Kd.R_drew)); exact HO_319002.out⟩, ⟨by (with_reducible repeat (first | refine blk_drewN ?_ _ | refine blk_drew ?_ | refine blk_alloc ?_ _)); exact BK318.out⟩, ⟨by repeat (first | (with_reducible first | exact HB.out | apply below_alloc | apply pw_below_drewN | apply below_drew1 | refine below_set ?_ GE318.out) | exact HB.out)⟩⟩
                                     · rw [if_neg c74] at H
                                       exact absurd H (by simp)
                                   · rw [if_neg c73] at H
                                     exact absurd H (by simp)
                                 · rw [if_neg c72] at H
                                   exact absurd H (by simp)
                               · rw [if_neg c71] at H
                                 have c71b0 : decide (x13_6 < (t312.length : Int)) = false := decide_eq_false c71
                                 clear c71
                                 by_cases c80 : (x8_4 == x10_5) = true
                                 · rw [if_pos c80] at H
                                   have c80b0 : (x8_4 == x10_5) = true := c80
                                   (try (have c80b1 : decide (x8_4 = x10_5) = true := by simpa using c80))
                                   (try (have c80b2 : (x8_4 == x10_5) = true := by simpa using c80))
                                   clear c80
                                   obtain rfl := Option.some.inj H
                                   have hcz81_0 : wr.cell? ⟨gb318, 0, none⟩ = some (.slice Ao11 t309.length co11) := (blk_cell BK318.out 0).trans rfl
                                   have hcz81_1 : wr.cell? ⟨gb318, 1, none⟩ = some (.slice Ao13 t312.length co13) := (blk_cell BK318.out 1).trans rfl
                                   have hcz81_2 : wr.cell? ⟨gb318, 2, none⟩ = some (.slice Ao14 t315.length co14) := (blk_cell BK318.out 2).trans rfl
                                   have hfz81_0 := blk_frozen BK318.out 0
                                   have hfz81_1 := blk_frozen BK318.out 1
                                   have hfz81_2 := blk_frozen BK318.out 2
                                   go_wp2
                                   go_ret
                                   exact ⟨by first | rfl | (simp [errW_none, errW_some] <;> rfl) | (simp [*, errW_none, errW_some] <;> rfl), by repeat (first | (with_reducible first | exact HB.out | apply below_alloc | apply pw_below_drewN | apply below_drew1 | refine below_set ?_ GE318.out) | exact HB.out)⟩
                                 · rw [if_neg c80] at H
                                   have c80b0 : (x8_4 == x10_5) = false := by simpa using c80
                                   (try (have c80b1 : decide (x8_4 = x10_5) = false := by simpa using c80))
                                   (try (have c80b2 : (x8_4 == x10_5) = false := by simpa using c80))
                                   (try (have c80b3 : ¬ (x8_4 = x10_5) := by simpa using c80))
                                   clear c80
                                   by_cases c82 : x12_6 > 1
                                   · rw [if_pos c82] at H
                                     have c82b0 : decide (1 < x12_6) = true := decide_eq_true c82
                                     clear c82
                                     obtain rfl := Option.some.inj H
                                     have hcz83_0 : wr.cell? ⟨gb318, 0, none⟩ = some (.slice Ao11 t309.length co11) := (blk_cell BK318.out 0).trans rfl
                                     have hcz83_1 : wr.cell? ⟨gb318, 1, none⟩ = some (.slice Ao13 t312.length co13) := (blk_cell BK318.out 1).trans rfl
                                     have hcz83_2 : wr.cell? ⟨gb318, 2, none⟩ = some (.slice Ao14 t315.length co14) := (blk_cell BK318.out 2).trans rfl
                                     have hfz83_0 := blk_frozen BK318.out 0
                                     have hfz83_1 := blk_frozen BK318.out 1
                                     have hfz83_2 := blk_frozen BK318.out 2
                                     go_wp2
                                     go_ret
                                     exact ⟨by first | rfl | (simp [errW_none, errW_some] <;> rfl) | (simp [*, errW_none, errW_some] <;> rfl), by repeat (first | (with_reducible first | exact HB.out | apply below_alloc | apply pw_below_drewN | apply below_drew1 | refine below_set ?_ GE318.out) | exact HB.out)⟩
                                   · rw [if_neg c82] at H
                                     have c82b0 : decide (1 < x12_6) = false := decide_eq_false c82
                                     clear c82
                                     by_cases c84 : x12_6 = 1
                                     · rw [if_pos c84] at H
                                       have c84b0 : (x12_6 == 1) = true := beq_iff_eq.mpr c84
                                       have c84b1 : (x12_6 != 1) = false := bne_eq_false_iff_eq.mpr c84
                                       clear c84
                                       by_cases c85 : x8_4 = true
                                       · subst c85
                                         have H1 : (seneschallaw17_PastParts.l2 k6 l0 (wrap64 (x6_3 + 1)) t309 t312 t315) = some r := by rw [if_pos rfl] at H; exact H
                                         clear H
                                         have H := H1
                                         clear H1
                                         have H' := Aside0.mk H
                                         clear H
                                         have hcz86_0 : wr.cell? ⟨gb318, 0, none⟩ = some (.slice Ao11 t309.length co11) := (blk_cell BK318.out 0).trans rfl
                                         have hcz86_1 : wr.cell? ⟨gb318, 1, none⟩ = some (.slice Ao13 t312.length co13) := (blk_cell BK318.out 1).trans rfl
                                         have hcz86_2 : wr.cell? ⟨gb318, 2, none⟩ = some (.slice Ao14 t315.length co14) := (blk_cell BK318.out 2).trans rfl
                                         have hfz86_0 := blk_frozen BK318.out 0
                                         have hfz86_1 := blk_frozen BK318.out 1
                                         have hfz86_2 := blk_frozen BK318.out 2
                                         go_wp2
                                         go_roundg k6
                                         case measure => have := HK1.out; have := HK2.out; have := HK3.out; have := HK4.out; have := HK5.out; have := HK6.out; omega
                                         case rel => exact ⟨(wrap64 (x6_3 + 1)), (by first | rfl | (simp; done) | (simp [*]; done)), H', ⟨by have := HK1.out; have := HK2.out; have := HK3.out; have := HK4.out; have := HK5.out; have := HK6.out; omega⟩, ⟨by (with_reducible repeat (first | apply Kd.R_alloc | apply Kd.R_drewN | apply Kd.R_drew)); exact HO_319000.out⟩, ⟨by (with_reducible repeat (first | apply Kd.R_alloc | apply Kd.R_drewN | apply Kd.R_drew)); exact HO_319001.out⟩, ⟨by (with_reducible repeat (first | apply Kd.R_alloc | apply Kd.R_drewN | apply Kd.R_drew)); exact HO_319002.out⟩, ⟨by (with_reducible repeat (first | refine blk_drewN ?_ _ | refine blk_drew ?_ | refine blk_alloc ?_ _)); exact BK318.out⟩, ⟨by repeat (first | (with_reducible first | exact HB.out | apply below_alloc | apply pw_below_drewN | apply below_drew1 | refine below_set ?_ GE318.out) | exact HB.out)⟩⟩
                                       · replace c85 := Bool.eq_false_iff.mpr c85
                                         subst c85
                                         have H1 : (some false) = some r := by rw [if_neg (show ¬ (false = true) by decide)] at H; exact H
                                         clear H
                                         have H := H1
                                         clear H1
                                         obtain rfl := Option.some.inj H
                                         have hcz87_0 : wr.cell? ⟨gb318, 0, none⟩ = some (.slice Ao11 t309.length co11) := (blk_cell BK318.out 0).trans rfl
                                         have hcz87_1 : wr.cell? ⟨gb318, 1, none⟩ = some (.slice Ao13 t312.length co13) := (blk_cell BK318.out 1).trans rfl
                                         have hcz87_2 : wr.cell? ⟨gb318, 2, none⟩ = some (.slice Ao14 t315.length co14) := (blk_cell BK318.out 2).trans rfl
                                         have hfz87_0 := blk_frozen BK318.out 0
                                         have hfz87_1 := blk_frozen BK318.out 1
                                         have hfz87_2 := blk_frozen BK318.out 2
                                         go_wp2
                                         go_ret
                                         exact ⟨by first | rfl | (simp [errW_none, errW_some] <;> rfl) | (simp [*, errW_none, errW_some] <;> rfl), by repeat (first | (with_reducible first | exact HB.out | apply below_alloc | apply pw_below_drewN | apply below_drew1 | refine below_set ?_ GE318.out) | exact HB.out)⟩
                                     · rw [if_neg c84] at H
                                       have c84b0 : (x12_6 == 1) = false := beq_eq_false_iff_ne.mpr c84
                                       have c84b1 : (x12_6 != 1) = true := bne_iff_ne.mpr c84
                                       have H' := Aside0.mk H
                                       clear H
                                       have hcz88_0 : wr.cell? ⟨gb318, 0, none⟩ = some (.slice Ao11 t309.length co11) := (blk_cell BK318.out 0).trans rfl
                                       have hcz88_1 : wr.cell? ⟨gb318, 1, none⟩ = some (.slice Ao13 t312.length co13) := (blk_cell BK318.out 1).trans rfl
                                       have hcz88_2 : wr.cell? ⟨gb318, 2, none⟩ = some (.slice Ao14 t315.length co14) := (blk_cell BK318.out 2).trans rfl
                                       have hfz88_0 := blk_frozen BK318.out 0
                                       have hfz88_1 := blk_frozen BK318.out 1
                                       have hfz88_2 := blk_frozen BK318.out 2
                                       go_wp2
                                       go_roundg k6
                                       case measure => have := HK1.out; have := HK2.out; have := HK3.out; have := HK4.out; have := HK5.out; have := HK6.out; omega
                                       case rel => exact ⟨(wrap64 (x6_3 + 1)), (by first | rfl | (simp; done) | (simp [*]; done)), H', ⟨by have := HK1.out; have := HK2.out; have := HK3.out; have := HK4.out; have := HK5.out; have := HK6.out; omega⟩, ⟨by (with_reducible repeat (first | apply Kd.R_alloc | apply Kd.R_drewN | apply Kd.R_drew)); exact HO_319000.out⟩, ⟨by (with_reducible repeat (first | apply Kd.R_alloc | apply Kd.R_drewN | apply Kd.R_drew)); exact HO_319001.out⟩, ⟨by (with_reducible repeat (first | apply Kd.R_alloc | apply Kd.R_drewN | apply Kd.R_drew)); exact HO_319002.out⟩, ⟨by (with_reducible repeat (first | refine blk_drewN ?_ _ | refine blk_drew ?_ | refine blk_alloc ?_ _)); exact BK318.out⟩, ⟨by repeat (first | (with_reducible first | exact HB.out | apply below_alloc | apply pw_below_drewN | apply below_drew1 | refine below_set ?_ GE318.out) | exact HB.out)⟩⟩
                   · replace c43 := Bool.eq_false_iff.mpr c43
                     subst c43
                     have H1 : (seneschallaw17_PastParts.l2 k3 l0 (wrap64 (x6_3 + 1)) t309 t312 t315) = some r := by rw [if_neg (show ¬ (false = true) by decide)] at H; exact H
                     clear H
                     have H := H1
                     clear H1
                     have H' := Aside0.mk H
                     clear H
                     have p324 : 0 ≤ (x6_3 : Int) := of_decide_eq_true (by first | (with_reducible assumption) | assumption)
                     have q324 : x6_3 < (l0.length : Int) := of_decide_eq_true (by first | (with_reducible assumption) | assumption)
                     obtain ⟨ad324, e324, hx324_0, hx324_1, hx324_2, hx324_3, hx324_4, hx324_5, hx324_6, hx324_7, hx324_8, hx324_9, hx324_10, hx324_11, hx324_12⟩ := at_T31 HR0.out x6_3 p324 q324
                     cases e324
                     replace hx324_0 := (HB.out.cell (World.block_lt_of_cell? w _ hx324_0)).trans hx324_0
                     replace hx324_1 := (HB.out.cell (World.block_lt_of_cell? w _ hx324_1)).trans hx324_1
                     replace hx324_2 := (HB.out.cell (World.block_lt_of_cell? w _ hx324_2)).trans hx324_2
                     replace hx324_3 := (HB.out.cell (World.block_lt_of_cell? w _ hx324_3)).trans hx324_3
                     replace hx324_4 := (HB.out.cell (World.block_lt_of_cell? w _ hx324_4)).trans hx324_4
                     replace hx324_5 := (HB.out.cell (World.block_lt_of_cell? w _ hx324_5)).trans hx324_5
                     replace hx324_6 := (HB.out.cell (World.block_lt_of_cell? w _ hx324_6)).trans hx324_6
                     replace hx324_7 := (HB.out.cell (World.block_lt_of_cell? w _ hx324_7)).trans hx324_7
                     replace hx324_8 := (HB.out.cell (World.block_lt_of_cell? w _ hx324_8)).trans hx324_8
                     replace hx324_9 := (HB.out.cell (World.block_lt_of_cell? w _ hx324_9)).trans hx324_9
                     replace hx324_10 := (HB.out.cell (World.block_lt_of_cell? w _ hx324_10)).trans hx324_10
                     replace hx324_11 := (HB.out.cell (World.block_lt_of_cell? w _ hx324_11)).trans hx324_11
                     replace hx324_12 := (HB.out.cell (World.block_lt_of_cell? w _ hx324_12)).trans hx324_12
                     replace p324 := eq_true p324
                     replace q324 := eq_true q324
                     go_wp2_with (first | ((with_reducible refine gate_callee (f := 18) rfl ?_); refine goesL_ (some 73) rfl rfl Try.func18 (by kernel_rfl) rfl #[.agg #[.int .i64 ((rd_T31 l0 x6_3).f0), .int .i64 ((rd_T31 l0 x6_3).f1.f0), .int .i64 ((rd_T31 l0 x6_3).f1.f1), .int .i64 ((rd_T31 l0 x6_3).f1.f2), .int .i64 ((rd_T31 l0 x6_3).f2), .int .i64 ((rd_T31 l0 x6_3).f3), .int .i64 ((rd_T31 l0 x6_3).f4), .int .i64 ((rd_T31 l0 x6_3).f5), .bool ((rd_T31 l0 x6_3).f6.f0), .string ((rd_T31 l0 x6_3).f6.f1), .bool ((rd_T31 l0 x6_3).f7.f0), .string ((rd_T31 l0 x6_3).f7.f1), .int .i64 ((rd_T31 l0 x6_3).f8)]] rfl (by (try simp only [List.map_toArray, List.map_cons, List.map_nil]); first | done | rfl | (simp only [List.length_drop, List.length_take]; rfl)) ?_; (with_reducible refine (entry_Good.calls k3 ((rd_T31 l0 x6_3).f0) ((rd_T31 l0 x6_3).f1.f0) ((rd_T31 l0 x6_3).f1.f1) ((rd_T31 l0 x6_3).f1.f2) ((rd_T31 l0 x6_3).f2) ((rd_T31 l0 x6_3).f3) ((rd_T31 l0 x6_3).f4) ((rd_T31 l0 x6_3).f5) ((rd_T31 l0 x6_3).f6.f0) ((rd_T31 l0 x6_3).f6.f1) ((rd_T31 l0 x6_3).f7.f0) ((rd_T31 l0 x6_3).f7.f1) ((rd_T31 l0 x6_3).f8) false _ A42.out).mono ?_); rintro e w89 ⟨rfl, hb⟩; refine ⟨_, rfl, ?_⟩; have n0_ := Aside0.mk (Kd.R_below (by (with_reducible repeat (first | apply Kd.R_alloc | apply Kd.R_drewN | apply Kd.R_drew)); exact HO_319000.out) hb); have n1_ := Aside0.mk (Kd.R_below (by (with_reducible repeat (first | apply Kd.R_alloc | apply Kd.R_drewN | apply Kd.R_drew)); exact HO_319001.out) hb); have n2_ := Aside0.mk (Kd.R_below (by (with_reducible repeat (first | apply Kd.R_alloc | apply Kd.R_drewN | apply Kd.R_drew)); exact HO_319002.out) hb); have n3_ := Aside0.mk (blk_below (g := gb318) (o := .cells #[.slice Ao11 t309.length co11, .slice Ao13 t312.length co13, .slice Ao14 t315.length co14] 37 (0, 0)) (by (with_reducible repeat (first | refine blk_drewN ?_ _ | refine blk_drew ?_ | refine blk_alloc ?_ _)); exact BK318.out) hb); have n4_ := Aside0.mk (below_step (by repeat (first | (with_reducible first | exact HB.out | apply below_alloc | apply pw_below_drewN | apply below_drew1 | refine below_set ?_ GE318.out) | exact HB.out)) hb); clear HO_319000; clear HO_319001; clear HO_319002; clear BK318; clear HB; have HO_319000 := n0_; have HO_319001 := n1_; have HO_319002 := n2_; have BK318 := n3_; have HB := n4_; clear n0_ n1_ n2_ n3_ n4_; (try clear hb); (try clear hb2); (try clear hk); (try clear hi)))
                     go_roundg k3
                     case measure => have := HK1.out; have := HK2.out; have := HK3.out; omega
                     case rel => exact ⟨(wrap64 (x6_3 + 1)), (by first | rfl | (simp; done) | (simp [*]; done)), H', ⟨by have := HK1.out; have := HK2.out; have := HK3.out; omega⟩, ⟨by (with_reducible repeat (first | apply Kd.R_alloc | apply Kd.R_drewN | apply Kd.R_drew)); exact HO_319000.out⟩, ⟨by (with_reducible repeat (first | apply Kd.R_alloc | apply Kd.R_drewN | apply Kd.R_drew)); exact HO_319001.out⟩, ⟨by (with_reducible repeat (first | apply Kd.R_alloc | apply Kd.R_drewN | apply Kd.R_drew)); exact HO_319002.out⟩, ⟨by (with_reducible repeat (first | refine blk_drewN ?_ _ | refine blk_drew ?_ | refine blk_alloc ?_ _)); exact BK318.out⟩, ⟨by repeat (first | (with_reducible first | exact HB.out | apply below_alloc | apply pw_below_drewN | apply below_drew1 | refine below_set ?_ GE318.out) | exact HB.out)⟩⟩
                 · rw [if_neg c41] at H
                   exact absurd H (by simp)
               · rw [if_neg c40] at H
                 have c40b0 : decide (x6_3 < (l0.length : Int)) = false := decide_eq_false c40
                 clear c40
                 obtain rfl := Option.some.inj H
                 go_wp2
                 go_ret
                 exact ⟨by first | rfl | (simp [errW_none, errW_some] <;> rfl) | (simp [*, errW_none, errW_some] <;> rfl), by repeat (first | (with_reducible first | exact HB.out | apply below_alloc | apply pw_below_drewN | apply below_drew1 | refine below_set ?_ GE318.out) | exact HB.out)⟩
 · replace c3 := Bool.eq_false_iff.mpr c3
   subst c3
   have H1 : (some false) = some r := by rw [if_neg (show ¬ (false = true) by decide)] at H; exact H
   clear H
   have H := H1
   clear H1
   obtain rfl := Option.some.inj H
   go_enter Try.func4, Try.ntmps4
   go_wp2_with (first | ((with_reducible refine gate_callee (f := 8) rfl ?_); refine goesL_ (some 14) rfl rfl Try.func8 (by kernel_rfl) rfl #[] rfl (by (try simp only [List.map_toArray, List.map_cons, List.map_nil]); first | done | rfl | (simp only [List.length_drop, List.length_take]; rfl)) ?_; (with_reducible refine (seneschallaw17_awake.calls  false _ A2.out).mono ?_); rintro e w90 ⟨rfl, hb⟩; refine ⟨_, rfl, ?_⟩; have n0_ := Aside0.mk (below_step (by repeat (first | (with_reducible first | exact HB.out | apply below_alloc | apply pw_below_drewN | apply below_drew1) | exact HB.out)) hb); clear HB; have HB := n0_; clear n0_; (try clear hb); (try clear hb2); (try clear hk); (try clear hi)))
   go_ret
   exact ⟨by first | rfl | (simp [errW_none, errW_some] <;> rfl) | (simp [*, errW_none, errW_some] <;> rfl), by repeat (first | (with_reducible first | exact HB.out | apply below_alloc | apply pw_below_drewN | apply below_drew1) | exact HB.out)⟩

end Go.Proofs.Ytianblmceohmnaa.PAll
