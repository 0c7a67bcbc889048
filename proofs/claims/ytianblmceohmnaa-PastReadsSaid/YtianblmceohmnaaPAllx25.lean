/- Printed texts (the kit's print with stand-ins) for this claim: great, Same, Needed, PastReads. -/
import Derived.Test.YtianblmceohmnaaPAllx0
import Derived.Test.YtianblmceohmnaaPAllx1
import Derived.Test.YtianblmceohmnaaPAllx4
import Derived.Test.YtianblmceohmnaaPAllx5
import Derived.Test.YtianblmceohmnaaPAllx9
import Derived.Test.YtianblmceohmnaaPAllLess
import Derived.Test.YtianblmceohmnaaStands
import Derived.Test.YtianblmceohmnaaAwake17
import Derived.Test.YtianblmceohmnaaPAllx2
import Derived.Test.YtianblmceohmnaaPAllx3
import Derived.Test.YtianblmceohmnaaPAllx8
import Derived.Test.YtianblmceohmnaaPAllx24
import Derived.Test.YtianblmceohmnaaRefReadC
namespace Go.Proofs.Ytianblmceohmnaa.PAll
open Go.RowKit Go.Proofs.YtianblmceohmnaaW.PrintWords Go.Proofs.YtianblmceohmnaaW.PrintLast Go.Proofs.YtianblmceohmnaaW.PrintMore
attribute [local go_sem] max2_int min2_int max_two min_two max_three min_three max_four min_four   -- for this text's walks alone
set_option linter.unusedVariables false
set_option linter.unusedSimpArgs false

/-! ### seneschallaw17_great: function 9 -/
def seneschallaw17_great.l0 : Nat → List (S31) → Int → Option (Bool)
  | 0, _, _ => none
  | k + 1, x0, x3 => if x3 < (x0.length : Int) then (if 0 ≤ x3 then (if (((rd_T31 x0 x3).f6.f1).size : Int) > 1024 then (some true) else (if (((rd_T31 x0 x3).f7.f1).size : Int) > 1024 then (some true) else (seneschallaw17_great.l0 k x0 (wrap64 (x3 + 1))))) else (none)) else (some false)
def seneschallaw17_great.f (k : Nat) (l0 : List (S31)) : Option (Bool) := if (l0.length : Int) > 80 then (some true) else (seneschallaw17_great.l0 k l0 0)
theorem seneschallaw17_great.mono_l : ∀ k, (∀ y0 y1, LeO (seneschallaw17_great.l0 k y0 y1) (seneschallaw17_great.l0 (k + 1) y0 y1))
  | 0 => fun _ _ r h => by simp [seneschallaw17_great.l0] at h
  | k + 1 => by
    have ih0 := seneschallaw17_great.mono_l k
    · intro y0 y1
      unfold seneschallaw17_great.l0
      repeat' first
      | (with_reducible exact ih0 _ _)
      | (with_reducible exact LeO.refl _)
      | (with_reducible exact LeO.none _)
      | (with_reducible refine LeO.ite ?_ ?_)
      | (with_reducible refine LeO.bind ?_ (fun _ => ?_))
      | exact ih0 _ _
      | exact LeO.none _
      | refine LeO.ite ?_ ?_
      | refine LeO.bind ?_ (fun _ => ?_)
theorem seneschallaw17_great.mono : ∀ a0 k, LeO (seneschallaw17_great.f k a0) (seneschallaw17_great.f (k + 1) a0) := by
  intro a0 k
  have ih0 := seneschallaw17_great.mono_l k
  unfold seneschallaw17_great.f
  repeat' first
      | (with_reducible exact ih0 _ _)
      | (with_reducible exact LeO.refl _)
      | (with_reducible exact LeO.none _)
      | (with_reducible refine LeO.ite ?_ ?_)
      | (with_reducible refine LeO.bind ?_ (fun _ => ?_))
      | exact ih0 _ _
      | exact LeO.none _
      | refine LeO.ite ?_ ?_
      | refine LeO.bind ?_ (fun _ => ?_)
set_option maxHeartbeats 8000000 in
set_option maxRecDepth 100000 in
theorem seneschallaw17_great.calls (k : Nat) (A0 : Option Addr) (c0 : Nat) (l0 : List (S31)) (r : Bool) (w : World) (hr0 : Kd.C k31 w A0 l0.length l0) (hc0 : l0.length ≤ c0) (h : seneschallaw17_great.f k l0 = some r) :
    Calls Try.prog 9 #[.slice A0 l0.length c0] w fun e w' => e = .returned (.bool r) ∧ Drawn0 w w' := by
  have HR0 := Aside0.mk hr0
  have HC0 := Aside0.mk hc0
  clear hr0 hc0
  have H : (if (l0.length : Int) > 80 then (some true) else (seneschallaw17_great.l0 k l0 0)) = some r := h
  clear h
  by_cases c2 : (l0.length : Int) > 80
  · rw [if_pos c2] at H
    have c2b0 : decide (80 < (l0.length : Int)) = true := decide_eq_true c2
    have c2b1 : decide (80 < l0.length) = true := decide_eq_true (by omega)
    clear c2
    obtain rfl := Option.some.inj H
    go_enter Try.func9, Try.ntmps9
    go_wp2
    go_ret
    exact ⟨by first | rfl | (simp; done) | (simp [*]; done), by repeat (first | exact Drawn0.refl _ | apply Drawn0.step)⟩
  · rw [if_neg c2] at H
    have c2b0 : decide (80 < (l0.length : Int)) = false := decide_eq_false c2
    have c2b1 : decide (80 < l0.length) = false := decide_eq_false (by omega)
    clear c2
    have H' := Aside0.mk H
    clear H
    go_enter Try.func9, Try.ntmps9
    go_wp2
    go_loopg [3] k (fun kq v3 w' => ∃ (x3_1 : Int), v3 = .int .i64 x3_1 ∧ Aside0 (seneschallaw17_great.l0 kq l0 x3_1 = some r) ∧ Aside0 (kq ≤ k) ∧ Drawn0 w w')
    case atStart => exact ⟨(0), (by first | rfl | (simp; done) | (simp [*]; done)), H', ⟨Nat.le_refl _⟩, by repeat (first | exact Drawn0.refl _ | apply Drawn0.step)⟩
    case round =>
      clear H'
      try clear c2
      try clear c2b0
      try clear c2b1
      try clear p2
      obtain ⟨x3_1, rfl, HA, HK1, ⟨m1, rfl⟩⟩ := hrel
      cases gk with
      | zero => exact absurd HA.out (by simp [seneschallaw17_great.l0])
      | succ k1 =>
        have H := HA.out
        clear HA
        simp only [seneschallaw17_great.l0] at H
        by_cases c3 : x3_1 < (l0.length : Int)
        · rw [if_pos c3] at H
          have c3b0 : decide (x3_1 < (l0.length : Int)) = true := decide_eq_true c3
          clear c3
          by_cases c4 : 0 ≤ x3_1
          · rw [if_pos c4] at H
            have c4b0 : decide (0 ≤ x3_1) = true := decide_eq_true c4
            clear c4
            by_cases c5 : (((rd_T31 l0 x3_1).f6.f1).size : Int) > 1024
            · rw [if_pos c5] at H
              have c5b0 : decide (1024 < (((rd_T31 l0 x3_1).f6.f1).size : Int)) = true := decide_eq_true c5
              have c5b1 : decide (1024 < ((rd_T31 l0 x3_1).f6.f1).size) = true := decide_eq_true (by omega)
              clear c5
              obtain rfl := Option.some.inj H
              have p273 : 0 ≤ (x3_1 : Int) := of_decide_eq_true (by first | (with_reducible assumption) | assumption)
              have q273 : x3_1 < (l0.length : Int) := of_decide_eq_true (by first | (with_reducible assumption) | assumption)
              obtain ⟨ad273, e273, hx273_0, hx273_1, hx273_2, hx273_3, hx273_4, hx273_5, hx273_6, hx273_7, hx273_8, hx273_9, hx273_10, hx273_11, hx273_12⟩ := at_T31 HR0.out x3_1 p273 q273
              cases e273
              replace p273 := eq_true p273
              replace q273 := eq_true q273
              go_wp2
              go_ret
              exact ⟨by first | rfl | (simp; done) | (simp [*]; done), by repeat (first | exact Drawn0.refl _ | apply Drawn0.step)⟩
            · rw [if_neg c5] at H
              have c5b0 : decide (1024 < (((rd_T31 l0 x3_1).f6.f1).size : Int)) = false := decide_eq_false c5
              have c5b1 : decide (1024 < ((rd_T31 l0 x3_1).f6.f1).size) = false := decide_eq_false (by omega)
              clear c5
              by_cases c6 : (((rd_T31 l0 x3_1).f7.f1).size : Int) > 1024
              · rw [if_pos c6] at H
                have c6b0 : decide (1024 < (((rd_T31 l0 x3_1).f7.f1).size : Int)) = true := decide_eq_true c6
                have c6b1 : decide (1024 < ((rd_T31 l0 x3_1).f7.f1).size) = true := decide_eq_true (by omega)
                clear c6
                obtain rfl := Option.some.inj H
                have p273 : 0 ≤ (x3_1 : Int) := of_decide_eq_true (by first | (with_reducible assumption) | assumption)
                have q273 : x3_1 < (l0.length : Int) := of_decide_eq_true (by first | (with_reducible assumption) | assumption)
                obtain ⟨ad273, e273, hx273_0, hx273_1, hx273_2, hx273_3, hx273_4, hx273_5, hx273_6, hx273_7, hx273_8, hx273_9, hx273_10, hx273_11, hx273_12⟩ := at_T31 HR0.out x3_1 p273 q273
                cases e273
                replace p273 := eq_true p273
                replace q273 := eq_true q273
                have p274 : 0 ≤ (x3_1 : Int) := of_decide_eq_true (by first | (with_reducible assumption) | assumption)
                have q274 : x3_1 < (l0.length : Int) := of_decide_eq_true (by first | (with_reducible assumption) | assumption)
                obtain ⟨ad274, e274, hx274_0, hx274_1, hx274_2, hx274_3, hx274_4, hx274_5, hx274_6, hx274_7, hx274_8, hx274_9, hx274_10, hx274_11, hx274_12⟩ := at_T31 HR0.out x3_1 p274 q274
                obtain rfl : ad273 = ad274 := (by injection e274)
                replace p274 := eq_true p274
                replace q274 := eq_true q274
                go_wp2
                go_ret
                exact ⟨by first | rfl | (simp; done) | (simp [*]; done), by repeat (first | exact Drawn0.refl _ | apply Drawn0.step)⟩
              · rw [if_neg c6] at H
                have c6b0 : decide (1024 < (((rd_T31 l0 x3_1).f7.f1).size : Int)) = false := decide_eq_false c6
                have c6b1 : decide (1024 < ((rd_T31 l0 x3_1).f7.f1).size) = false := decide_eq_false (by omega)
                clear c6
                have H' := Aside0.mk H
                clear H
                have p273 : 0 ≤ (x3_1 : Int) := of_decide_eq_true (by first | (with_reducible assumption) | assumption)
                have q273 : x3_1 < (l0.length : Int) := of_decide_eq_true (by first | (with_reducible assumption) | assumption)
                obtain ⟨ad273, e273, hx273_0, hx273_1, hx273_2, hx273_3, hx273_4, hx273_5, hx273_6, hx273_7, hx273_8, hx273_9, hx273_10, hx273_11, hx273_12⟩ := at_T31 HR0.out x3_1 p273 q273
                cases e273
                replace p273 := eq_true p273
                replace q273 := eq_true q273
                have p274 : 0 ≤ (x3_1 : Int) := of_decide_eq_true (by first | (with_reducible assumption) | assumption)
                have q274 : x3_1 < (l0.length : Int) := of_decide_eq_true (by first | (with_reducible assumption) | assumption)
                obtain ⟨ad274, e274, hx274_0, hx274_1, hx274_2, hx274_3, hx274_4, hx274_5, hx274_6, hx274_7, hx274_8, hx274_9, hx274_10, hx274_11, hx274_12⟩ := at_T31 HR0.out x3_1 p274 q274
                obtain rfl : ad273 = ad274 := (by injection e274)
                replace p274 := eq_true p274
                replace q274 := eq_true q274
                go_wp2
                go_roundg k1
                case measure => have := HK1.out; omega
                case rel => exact ⟨(wrap64 (x3_1 + 1)), (by first | rfl | (simp; done) | (simp [*]; done)), H', ⟨by have := HK1.out; omega⟩, by repeat (first | exact Drawn0.refl _ | apply Drawn0.step)⟩
          · rw [if_neg c4] at H
            exact absurd H (by simp)
        · rw [if_neg c3] at H
          have c3b0 : decide (x3_1 < (l0.length : Int)) = false := decide_eq_false c3
          clear c3
          obtain rfl := Option.some.inj H
          go_wp2
          go_ret
          exact ⟨by first | rfl | (simp; done) | (simp [*]; done), by repeat (first | exact Drawn0.refl _ | apply Drawn0.step)⟩

-- NOT PRINTED: function 4 (seneschallaw17_PastParts)

end Go.Proofs.Ytianblmceohmnaa.PAll

namespace Go.Proofs.Ytianblmceohmnaa.PAll
open Go.RowKit Go.Proofs.YtianblmceohmnaaW.PrintWords Go.Proofs.YtianblmceohmnaaW.PrintLast Go.Proofs.YtianblmceohmnaaW.PrintMore
attribute [local go_sem] max2_int min2_int max_two min_two max_three min_three max_four min_four   -- for this text's walks alone
set_option linter.unusedVariables false
set_option linter.unusedSimpArgs false

attribute [local go_sem high] eqA24 eqA43 eqA45
/-! ### seneschalref17_Same: function 12 -/
mutual
def seneschalref17_Same.j0 : Nat → Bool → List (S43) → List (S24) → List (S45) → List (S43) → List (S24) → List (S45) → Option (Bool)
 | 0, _, _, _, _, _, _, _ => none
 | k + 1, x32, x444000, x444001, x444002, x445000, x445001, x445002 => if x32 = true then (some false) else (seneschalref17_Same.l0 k 0 x444000 x444001 x444002 x445000 x445001 x445002)
def seneschalref17_Same.l0 : Nat → Int → List (S43) → List (S24) → List (S45) → List (S43) → List (S24) → List (S45) → Option (Bool)
 | 0, _, _, _, _, _, _, _ => none
 | k + 1, x5, x444000, x444001, x444002, x445000, x445001, x445002 => if x5 < (x444000.length : Int) then (if 0 ≤ x5 then (if x5 < (x445000.length : Int) then (if ((!(((rd_T43 x444000 x5).f0.f0) == ((rd_T43 x445000 x5).f0.f0)) || (!(((rd_T43 x444000 x5).f0.f1) == ((rd_T43 x445000 x5).f0.f1)) || (!(((rd_T43 x444000 x5).f0.f2) == ((rd_T43 x445000 x5).f0.f2))))) || (!(((rd_T43 x444000 x5).f1) == ((rd_T43 x445000 x5).f1)))) = true then (some false) else (seneschalref17_Same.l0 k (wrap64 (x5 + 1)) x444000 x444001 x444002 x445000 x445001 x445002)) else (none)) else (none)) else (seneschalref17_Same.l1 k 0 x444000 x444001 x444002 x445000 x445001 x445002)
def seneschalref17_Same.l1 : Nat → Int → List (S43) → List (S24) → List (S45) → List (S43) → List (S24) → List (S45) → Option (Bool)
 | 0, _, _, _, _, _, _, _ => none
 | k + 1, x6, x444000, x444001, x444002, x445000, x445001, x445002 => if x6 < (x444001.length : Int) then (if 0 ≤ x6 then (if x6 < (x445001.length : Int) then (if (!(((rd_T24 x444001 x6).f0) == ((rd_T24 x445001 x6).f0)) || (!(((rd_T24 x444001 x6).f1) == ((rd_T24 x445001 x6).f1)) || (!(((rd_T24 x444001 x6).f2) == ((rd_T24 x445001 x6).f2))))) = true then (some false) else (seneschalref17_Same.l1 k (wrap64 (x6 + 1)) x444000 x444001 x444002 x445000 x445001 x445002)) else (none)) else (none)) else (seneschalref17_Same.l2 k 0 x444000 x444001 x444002 x445000 x445001 x445002)
def seneschalref17_Same.l2 : Nat → Int → List (S43) → List (S24) → List (S45) → List (S43) → List (S24) → List (S45) → Option (Bool)
 | 0, _, _, _, _, _, _, _ => none
 | k + 1, x7, x444000, x444001, x444002, x445000, x445001, x445002 => if x7 < (x444002.length : Int) then (if 0 ≤ x7 then (if x7 < (x445002.length : Int) then (if (!(((rd_T45 x444002 x7).f0) == ((rd_T45 x445002 x7).f0)) || (!(((rd_T45 x444002 x7).f1) == ((rd_T45 x445002 x7).f1)))) = true then (some false) else (seneschalref17_Same.l2 k (wrap64 (x7 + 1)) x444000 x444001 x444002 x445000 x445001 x445002)) else (none)) else (none)) else (some true)
end
def seneschalref17_Same.f (k : Nat) (l0_0 : List (S43)) (l0_1 : List (S24)) (l0_2 : List (S45)) (l1_0 : List (S43)) (l1_1 : List (S24)) (l1_2 : List (S45)) : Option (Bool) := if (l0_0.length : Int) = (l1_0.length : Int) then (if (l0_1.length : Int) = (l1_1.length : Int) then (seneschalref17_Same.j0 k ((l0_2.length : Int) != (l1_2.length : Int)) l0_0 l0_1 l0_2 l1_0 l1_1 l1_2) else (seneschalref17_Same.j0 k true l0_0 l0_1 l0_2 l1_0 l1_1 l1_2)) else (seneschalref17_Same.j0 k true l0_0 l0_1 l0_2 l1_0 l1_1 l1_2)
theorem seneschalref17_Same.mono_l : ∀ k, (∀ y0 y1 y2 y3 y4 y5 y6, LeO (seneschalref17_Same.j0 k y0 y1 y2 y3 y4 y5 y6) (seneschalref17_Same.j0 (k + 1) y0 y1 y2 y3 y4 y5 y6)) ∧ (∀ y0 y1 y2 y3 y4 y5 y6, LeO (seneschalref17_Same.l0 k y0 y1 y2 y3 y4 y5 y6) (seneschalref17_Same.l0 (k + 1) y0 y1 y2 y3 y4 y5 y6)) ∧ (∀ y0 y1 y2 y3 y4 y5 y6, LeO (seneschalref17_Same.l1 k y0 y1 y2 y3 y4 y5 y6) (seneschalref17_Same.l1 (k + 1) y0 y1 y2 y3 y4 y5 y6)) ∧ (∀ y0 y1 y2 y3 y4 y5 y6, LeO (seneschalref17_Same.l2 k y0 y1 y2 y3 y4 y5 y6) (seneschalref17_Same.l2 (k + 1) y0 y1 y2 y3 y4 y5 y6))
 | 0 => ⟨fun _ _ _ _ _ _ _ r h => by simp [seneschalref17_Same.j0] at h, fun _ _ _ _ _ _ _ r h => by simp [seneschalref17_Same.l0] at h, fun _ _ _ _ _ _ _ r h => by simp [seneschalref17_Same.l1] at h, fun _ _ _ _ _ _ _ r h => by simp [seneschalref17_Same.l2] at h⟩
 | k + 1 => by
  obtain ⟨ih0, ih1, ih2, ih3⟩ := seneschalref17_Same.mono_l k
  refine ⟨?_, ?_, ?_, ?_⟩
  · intro y0 y1 y2 y3 y4 y5 y6
    unfold seneschalref17_Same.j0
    repeat' first
    | (with_reducible exact ih0 _ _ _ _ _ _ _)
    | (with_reducible exact ih1 _ _ _ _ _ _ _)
    | (with_reducible exact ih2 _ _ _ _ _ _ _)
    | (with_reducible exact ih3 _ _ _ _ _ _ _)
    | (with_reducible exact LeO.refl _)
    | (with_reducible exact LeO.none _)
    | (with_reducible refine LeO.ite ?_ ?_)
    | (with_reducible refine LeO.bind ?_ (fun _ => ?_))
    | exact ih0 _ _ _ _ _ _ _
    | exact ih1 _ _ _ _ _ _ _
    | exact ih2 _ _ _ _ _ _ _
    | exact ih3 _ _ _ _ _ _ _
    | exact LeO.none _
    | refine LeO.ite ?_ ?_
    | refine LeO.bind ?_ (fun _ => ?_)
  · intro y0 y1 y2 y3 y4 y5 y6
    unfold seneschalref17_Same.l0
    repeat' first
    | (with_reducible exact ih0 _ _ _ _ _ _ _)
    | (with_reducible exact ih1 _ _ _ _ _ _ _)
    | (with_reducible exact ih2 _ _ _ _ _ _ _)
    | (with_reducible exact ih3 _ _ _ _ _ _ _)
    | (with_reducible exact LeO.refl _)
    | (with_reducible exact LeO.none _)
    | (with_reducible refine LeO.ite ?_ ?_)
    | (with_reducible refine LeO.bind ?_ (fun _ => ?_))
    | exact ih0 _ _ _ _ _ _ _
    | exact ih1 _ _ _ _ _ _ _
    | exact ih2 _ _ _ _ _ _ _
    | exact ih3 _ _ _ _ _ _ _
    | exact LeO.none _
    | refine LeO.ite ?_ ?_
    | refine LeO.bind ?_ (fun _ => ?_)
  · intro y0 y1 y2 y3 y4 y5 y6
    unfold seneschalref17_Same.l1
    repeat' first
    | (with_reducible exact ih0 _ _ _ _ _ _ _)
    | (with_reducible exact ih1 _ _ _ _ _ _ _)
    | (with_reducible exact ih2 _ _ _ _ _ _ _)
    | (with_reducible exact ih3 _ _ _ _ _ _ _)
    | (with_reducible exact LeO.refl _)
    | (with_reducible exact LeO.none _)
    | (with_reducible refine LeO.ite ?_ ?_)
    | (with_reducible refine LeO.bind ?_ (fun _ => ?_))
    | exact ih0 _ _ _ _ _ _ _
    | exact ih1 _ _ _ _ _ _ _
    | exact ih2 _ _ _ _ _ _ _
    | exact ih3 _ _ _ _ _ _ _
    | exact LeO.none _
    | refine LeO.ite ?_ ?_
    | refine LeO.bind ?_ (fun _ => ?_)
  · intro y0 y1 y2 y3 y4 y5 y6
    unfold seneschalref17_Same.l2
    repeat' first
    | (with_reducible exact ih0 _ _ _ _ _ _ _)
    | (with_reducible exact ih1 _ _ _ _ _ _ _)
    | (with_reducible exact ih2 _ _ _ _ _ _ _)
    | (with_reducible exact ih3 _ _ _ _ _ _ _)
    | (with_reducible exact LeO.refl _)
    | (with_reducible exact LeO.none _)
    | (with_reducible refine LeO.ite ?_ ?_)
    | (with_reducible refine LeO.bind ?_ (fun _ => ?_))
    | exact ih0 _ _ _ _ _ _ _
    | exact ih1 _ _ _ _ _ _ _
    | exact ih2 _ _ _ _ _ _ _
    | exact ih3 _ _ _ _ _ _ _
    | exact LeO.none _
    | refine LeO.ite ?_ ?_
    | refine LeO.bind ?_ (fun _ => ?_)
theorem seneschalref17_Same.mono : ∀ a0 a1 a2 a3 a4 a5 k, LeO (seneschalref17_Same.f k a0 a1 a2 a3 a4 a5) (seneschalref17_Same.f (k + 1) a0 a1 a2 a3 a4 a5) := by
 intro a0 a1 a2 a3 a4 a5 k
 obtain ⟨ih0, ih1, ih2, ih3⟩ := seneschalref17_Same.mono_l k
 unfold seneschalref17_Same.f
 repeat' first
  | (with_reducible exact ih0 _ _ _ _ _ _ _)
  | (with_reducible exact ih1 _ _ _ _ _ _ _)
  | (with_reducible exact ih2 _ _ _ _ _ _ _)
  | (with_reducible exact ih3 _ _ _ _ _ _ _)
  | (with_reducible exact LeO.refl _)
  | (with_reducible exact LeO.none _)
  | (with_reducible refine LeO.ite ?_ ?_)
  | (with_reducible refine LeO.bind ?_ (fun _ => ?_))
  | exact ih0 _ _ _ _ _ _ _
  | exact ih1 _ _ _ _ _ _ _
  | exact ih2 _ _ _ _ _ _ _
  | exact ih3 _ _ _ _ _ _ _
  | exact LeO.none _
  | refine LeO.ite ?_ ?_
  | refine LeO.bind ?_ (fun _ => ?_)
set_option maxHeartbeats 8000000 in
set_option maxRecDepth 100000 in
theorem seneschalref17_Same.calls (k : Nat) (A0_0 : Option Addr) (c0_0 : Nat) (l0_0 : List (S43)) (A0_1 : Option Addr) (c0_1 : Nat) (l0_1 : List (S24)) (A0_2 : Option Addr) (c0_2 : Nat) (l0_2 : List (S45)) (A1_0 : Option Addr) (c1_0 : Nat) (l1_0 : List (S43)) (A1_1 : Option Addr) (c1_1 : Nat) (l1_1 : List (S24)) (A1_2 : Option Addr) (c1_2 : Nat) (l1_2 : List (S45)) (r : Bool) (w : World) (hr0_0 : Kd.C k43 w A0_0 l0_0.length l0_0) (hc0_0 : l0_0.length ≤ c0_0) (hr0_1 : Kd.C k24 w A0_1 l0_1.length l0_1) (hc0_1 : l0_1.length ≤ c0_1) (hr0_2 : Kd.C k45 w A0_2 l0_2.length l0_2) (hc0_2 : l0_2.length ≤ c0_2) (hr1_0 : Kd.C k43 w A1_0 l1_0.length l1_0) (hc1_0 : l1_0.length ≤ c1_0) (hr1_1 : Kd.C k24 w A1_1 l1_1.length l1_1) (hc1_1 : l1_1.length ≤ c1_1) (hr1_2 : Kd.C k45 w A1_2 l1_2.length l1_2) (hc1_2 : l1_2.length ≤ c1_2) (h : seneschalref17_Same.f k l0_0 l0_1 l0_2 l1_0 l1_1 l1_2 = some r) :
 Calls Try.prog 12 #[.agg #[.slice A0_0 l0_0.length c0_0, .slice A0_1 l0_1.length c0_1, .slice A0_2 l0_2.length c0_2], .agg #[.slice A1_0 l1_0.length c1_0, .slice A1_1 l1_1.length c1_1, .slice A1_2 l1_2.length c1_2]] w fun e w' => e = .returned (.bool r) ∧ Below w.heap.size w w' := by
 have hu37 := Try.underlying37
 have hu43 := Try.underlying43
 have hu24 := Try.underlying24
 have hu45 := Try.underlying45
 have HR0_0 := Aside0.mk hr0_0
 have HC0_0 := Aside0.mk hc0_0
 clear hr0_0 hc0_0
 have HR0_1 := Aside0.mk hr0_1
 have HC0_1 := Aside0.mk hc0_1
 clear hr0_1 hc0_1
 have HR0_2 := Aside0.mk hr0_2
 have HC0_2 := Aside0.mk hc0_2
 clear hr0_2 hc0_2
 have HR1_0 := Aside0.mk hr1_0
 have HC1_0 := Aside0.mk hc1_0
 clear hr1_0 hc1_0
 have HR1_1 := Aside0.mk hr1_1
 have HC1_1 := Aside0.mk hc1_1
 clear hr1_1 hc1_1
 have HR1_2 := Aside0.mk hr1_2
 have HC1_2 := Aside0.mk hc1_2
 clear hr1_2 hc1_2
 have HB := Aside0.mk (Below.refl w.heap.size w)
 have H : (if (l0_0.length : Int) = (l1_0.length : Int) then (if (l0_1.length : Int) = (l1_1.length : Int) then (seneschalref17_Same.j0 k ((l0_2.length : Int) != (l1_2.length : Int)) l0_0 l0_1 l0_2 l1_0 l1_1 l1_2) else (seneschalref17_Same.j0 k true l0_0 l0_1 l0_2 l1_0 l1_1 l1_2)) else (seneschalref17_Same.j0 k true l0_0 l0_1 l0_2 l1_0 l1_1 l1_2)) = some r := h
 clear h
 have HC3 := Aside0.mk H
 clear H
 go_enter Try.func12, Try.ntmps12
 go_upto_region 1 with (first | ((with_reducible refine gate_dst (N := 2) rfl ?_); (try (refine gate_guard (by rfl) ?_; dsimp only)); refine box_event ?hg (N := 2) ?hd (cs := #[.slice A0_0 l0_0.length c0_0, .slice A0_1 l0_1.length c0_1, .slice A0_2 l0_2.length c0_2]) (t := 37) ?hr ?_; (case hd => rfl); (case hg => rfl); (case hr => first | (go_simp; done) | (go_simp; rfl)); intro gb443 hg w4 hbox hb; have n0_ := Aside0.mk (below_step (by repeat (first | (with_reducible first | exact HB.out | apply below_alloc | apply pw_below_drewN | apply below_drew1) | exact HB.out)) hb); have n1_ := Aside0.mk (hbox); have n2_ := Aside0.mk ((by rw [hg]; exact (below_size (by repeat (first | (with_reducible first | exact HB.out | apply below_alloc | apply pw_below_drewN | apply below_drew1) | exact HB.out))) : w.heap.size ≤ gb443)); have n3_ := Aside0.mk ((by rw [hg]; exact (below_size (by repeat (first | (with_reducible first | exact HB.out | apply below_alloc | apply pw_below_drewN | apply below_drew1) | exact HB.out))) : w.heap.size ≤ gb443)); clear HB; have HB := n0_; have BK443 := n1_; have GW443 := n2_; have GE443 := n3_; clear n0_ n1_ n2_ n3_; clear hb hbox hg) | ((with_reducible refine gate_dst (N := 3) rfl ?_); (try (refine gate_guard (by rfl) ?_; dsimp only)); refine box_event ?hg (N := 3) ?hd (cs := #[.slice A1_0 l1_0.length c1_0, .slice A1_1 l1_1.length c1_1, .slice A1_2 l1_2.length c1_2]) (t := 37) ?hr ?_; (case hd => rfl); (case hg => rfl); (case hr => first | (go_simp; done) | (go_simp; rfl)); intro gb444 hg w5 hbox hb; have n0_ := Aside0.mk (blk_below (g := gb443) (o := .cells #[.slice A0_0 l0_0.length c0_0, .slice A0_1 l0_1.length c0_1, .slice A0_2 l0_2.length c0_2] 37 (0, 0)) (by (with_reducible repeat (first | refine blk_drewN ?_ _ | refine blk_drew ?_ | refine blk_alloc ?_ _)); exact BK443.out) hb); have n1_ := Aside0.mk (below_step (by repeat (first | (with_reducible first | exact HB.out | apply below_alloc | apply pw_below_drewN | apply below_drew1 | refine below_set ?_ GE443.out) | exact HB.out)) hb); have n2_ := Aside0.mk (hbox); have n3_ := Aside0.mk ((by rw [hg]; exact (below_size (by repeat (first | (with_reducible first | exact HB.out | apply below_alloc | apply pw_below_drewN | apply below_drew1 | refine below_set ?_ GE443.out) | exact HB.out))) : w.heap.size ≤ gb444)); have n4_ := Aside0.mk ((by rw [hg]; exact (below_size (by repeat (first | (with_reducible first | exact HB.out | apply below_alloc | apply pw_below_drewN | apply below_drew1 | refine below_set ?_ GE443.out) | exact HB.out))) : w.heap.size ≤ gb444)); have n5_ := Aside0.mk ((by rw [hg]; exact Nat.ne_of_lt (blk_lt (g := gb443) (o := .cells #[.slice A0_0 l0_0.length c0_0, .slice A0_1 l0_1.length c0_1, .slice A0_2 l0_2.length c0_2] 37 (0, 0)) (by (with_reducible repeat (first | refine blk_drewN ?_ _ | refine blk_drew ?_ | refine blk_alloc ?_ _)); exact BK443.out)) : gb443 ≠ gb444)); have n6_ := Aside0.mk ((by rw [hg]; exact Nat.ne_of_gt (blk_lt (g := gb443) (o := .cells #[.slice A0_0 l0_0.length c0_0, .slice A0_1 l0_1.length c0_1, .slice A0_2 l0_2.length c0_2] 37 (0, 0)) (by (with_reducible repeat (first | refine blk_drewN ?_ _ | refine blk_drew ?_ | refine blk_alloc ?_ _)); exact BK443.out)) : gb444 ≠ gb443)); clear BK443; clear HB; have BK443 := n0_; have HB := n1_; have BK444 := n2_; have GW444 := n3_; have GE444 := n4_; have NB443_444 := n5_; have NB444_443 := n6_; clear n0_ n1_ n2_ n3_ n4_ n5_ n6_; clear hb hbox hg))
 repeat (go_quiet (first | ((with_reducible refine gate_dst (N := 2) rfl ?_); (try (refine gate_guard (by rfl) ?_; dsimp only)); refine box_event ?hg (N := 2) ?hd (cs := #[.slice A0_0 l0_0.length c0_0, .slice A0_1 l0_1.length c0_1, .slice A0_2 l0_2.length c0_2]) (t := 37) ?hr ?_; (case hd => rfl); (case hg => rfl); (case hr => first | (go_simp; done) | (go_simp; rfl)); intro gb443 hg w4 hbox hb; have n0_ := Aside0.mk (below_step (by repeat (first | (with_reducible first | exact HB.out | apply below_alloc | apply pw_below_drewN | apply below_drew1) | exact HB.out)) hb); have n1_ := Aside0.mk (hbox); have n2_ := Aside0.mk ((by rw [hg]; exact (below_size (by repeat (first | (with_reducible first | exact HB.out | apply below_alloc | apply pw_below_drewN | apply below_drew1) | exact HB.out))) : w.heap.size ≤ gb443)); have n3_ := Aside0.mk ((by rw [hg]; exact (below_size (by repeat (first | (with_reducible first | exact HB.out | apply below_alloc | apply pw_below_drewN | apply below_drew1) | exact HB.out))) : w.heap.size ≤ gb443)); clear HB; have HB := n0_; have BK443 := n1_; have GW443 := n2_; have GE443 := n3_; clear n0_ n1_ n2_ n3_; clear hb hbox hg) | ((with_reducible refine gate_dst (N := 3) rfl ?_); (try (refine gate_guard (by rfl) ?_; dsimp only)); refine box_event ?hg (N := 3) ?hd (cs := #[.slice A1_0 l1_0.length c1_0, .slice A1_1 l1_1.length c1_1, .slice A1_2 l1_2.length c1_2]) (t := 37) ?hr ?_; (case hd => rfl); (case hg => rfl); (case hr => first | (go_simp; done) | (go_simp; rfl)); intro gb444 hg w5 hbox hb; have n0_ := Aside0.mk (blk_below (g := gb443) (o := .cells #[.slice A0_0 l0_0.length c0_0, .slice A0_1 l0_1.length c0_1, .slice A0_2 l0_2.length c0_2] 37 (0, 0)) (by (with_reducible repeat (first | refine blk_drewN ?_ _ | refine blk_drew ?_ | refine blk_alloc ?_ _)); exact BK443.out) hb); have n1_ := Aside0.mk (below_step (by repeat (first | (with_reducible first | exact HB.out | apply below_alloc | apply pw_below_drewN | apply below_drew1 | refine below_set ?_ GE443.out) | exact HB.out)) hb); have n2_ := Aside0.mk (hbox); have n3_ := Aside0.mk ((by rw [hg]; exact (below_size (by repeat (first | (with_reducible first | exact HB.out | apply below_alloc | apply pw_below_drewN | apply below_drew1 | refine below_set ?_ GE443.out) | exact HB.out))) : w.heap.size ≤ gb444)); have n4_ := Aside0.mk ((by rw [hg]; exact (below_size (by repeat (first | (with_reducible first | exact HB.out | apply below_alloc | apply pw_below_drewN | apply below_drew1 | refine below_set ?_ GE443.out) | exact HB.out))) : w.heap.size ≤ gb444)); have n5_ := Aside0.mk ((by rw [hg]; exact Nat.ne_of_lt (blk_lt (g := gb443) (o := .cells #[.slice A0_0 l0_0.length c0_0, .slice A0_1 l0_1.length c0_1, .slice A0_2 l0_2.length c0_2] 37 (0, 0)) (by (with_reducible repeat (first | refine blk_drewN ?_ _ | refine blk_drew ?_ | refine blk_alloc ?_ _)); exact BK443.out)) : gb443 ≠ gb444)); have n6_ := Aside0.mk ((by rw [hg]; exact Nat.ne_of_gt (blk_lt (g := gb443) (o := .cells #[.slice A0_0 l0_0.length c0_0, .slice A0_1 l0_1.length c0_1, .slice A0_2 l0_2.length c0_2] 37 (0, 0)) (by (with_reducible repeat (first | refine blk_drewN ?_ _ | refine blk_drew ?_ | refine blk_alloc ?_ _)); exact BK443.out)) : gb444 ≠ gb443)); clear BK443; clear HB; have BK443 := n0_; have HB := n1_; have BK444 := n2_; have GW444 := n3_; have GE444 := n4_; have NB443_444 := n5_; have NB444_443 := n6_; clear n0_ n1_ n2_ n3_ n4_ n5_ n6_; clear hb hbox hg)); go_upto_region 1 with (first | ((with_reducible refine gate_dst (N := 2) rfl ?_); (try (refine gate_guard (by rfl) ?_; dsimp only)); refine box_event ?hg (N := 2) ?hd (cs := #[.slice A0_0 l0_0.length c0_0, .slice A0_1 l0_1.length c0_1, .slice A0_2 l0_2.length c0_2]) (t := 37) ?hr ?_; (case hd => rfl); (case hg => rfl); (case hr => first | (go_simp; done) | (go_simp; rfl)); intro gb443 hg w4 hbox hb; have n0_ := Aside0.mk (below_step (by repeat (first | (with_reducible first | exact HB.out | apply below_alloc | apply pw_below_drewN | apply below_drew1) | exact HB.out)) hb); have n1_ := Aside0.mk (hbox); have n2_ := Aside0.mk ((by rw [hg]; exact (below_size (by repeat (first | (with_reducible first | exact HB.out | apply below_alloc | apply pw_below_drewN | apply below_drew1) | exact HB.out))) : w.heap.size ≤ gb443)); have n3_ := Aside0.mk ((by rw [hg]; exact (below_size (by repeat (first | (with_reducible first | exact HB.out | apply below_alloc | apply pw_below_drewN | apply below_drew1) | exact HB.out))) : w.heap.size ≤ gb443)); clear HB; have HB := n0_; have BK443 := n1_; have GW443 := n2_; have GE443 := n3_; clear n0_ n1_ n2_ n3_; clear hb hbox hg) | ((with_reducible refine gate_dst (N := 3) rfl ?_); (try (refine gate_guard (by rfl) ?_; dsimp only)); refine box_event ?hg (N := 3) ?hd (cs := #[.slice A1_0 l1_0.length c1_0, .slice A1_1 l1_1.length c1_1, .slice A1_2 l1_2.length c1_2]) (t := 37) ?hr ?_; (case hd => rfl); (case hg => rfl); (case hr => first | (go_simp; done) | (go_simp; rfl)); intro gb444 hg w5 hbox hb; have n0_ := Aside0.mk (blk_below (g := gb443) (o := .cells #[.slice A0_0 l0_0.length c0_0, .slice A0_1 l0_1.length c0_1, .slice A0_2 l0_2.length c0_2] 37 (0, 0)) (by (with_reducible repeat (first | refine blk_drewN ?_ _ | refine blk_drew ?_ | refine blk_alloc ?_ _)); exact BK443.out) hb); have n1_ := Aside0.mk (below_step (by repeat (first | (with_reducible first | exact HB.out | apply below_alloc | apply pw_below_drewN | apply below_drew1 | refine below_set ?_ GE443.out) | exact HB.out)) hb); have n2_ := Aside0.mk (hbox); have n3_ := Aside0.mk ((by rw [hg]; exact (below_size (by repeat (first | (with_reducible first | exact HB.out | apply below_alloc | apply pw_below_drewN | apply below_drew1 | refine below_set ?_ GE443.out) | exact HB.out))) : w.heap.size ≤ gb444)); have n4_ := Aside0.mk ((by rw [hg]; exact (below_size (by repeat (first | (with_reducible first | exact HB.out | apply below_alloc | apply pw_below_drewN | apply below_drew1 | refine below_set ?_ GE443.out) | exact HB.out))) : w.heap.size ≤ gb444)); have n5_ := Aside0.mk ((by rw [hg]; exact Nat.ne_of_lt (blk_lt (g := gb443) (o := .cells #[.slice A0_0 l0_0.length c0_0, .slice A0_1 l0_1.length c0_1, .slice A0_2 l0_2.length c0_2] 37 (0, 0)) (by (with_reducible repeat (first | refine blk_drewN ?_ _ | refine blk_drew ?_ | refine blk_alloc ?_ _)); exact BK443.out)) : gb443 ≠ gb444)); have n6_ := Aside0.mk ((by rw [hg]; exact Nat.ne_of_gt (blk_lt (g := gb443) (o := .cells #[.slice A0_0 l0_0.length c0_0, .slice A0_1 l0_1.length c0_1, .slice A0_2 l0_2.length c0_2] 37 (0, 0)) (by (with_reducible repeat (first | refine blk_drewN ?_ _ | refine blk_drew ?_ | refine blk_alloc ?_ _)); exact BK443.out)) : gb444 ≠ gb443)); clear BK443; clear HB; have BK443 := n0_; have HB := n1_; have BK444 := n2_; have GW444 := n3_; have GE444 := n4_; have NB443_444 := n5_; have NB444_443 := n6_; clear n0_ n1_ n2_ n3_ n4_ n5_ n6_; clear hb hbox hg)))
 (try simp only [Act.put, List.setIfInBounds_toArray, List.set_cons_zero, List.set_cons_succ])
 go_cut [32] (fun v32 wc => ∃ (kq : Nat) (x32_2 : Bool), v32 = .bool x32_2 ∧ Aside0 (seneschalref17_Same.j0 kq x32_2 l0_0 l0_1 l0_2 l1_0 l1_1 l1_2 = some r) ∧ Aside0 (kq ≤ k) ∧ Aside0 (wc.heap[gb443]? = some (.cells #[(.slice A0_0 l0_0.length c0_0), (.slice A0_1 l0_1.length c0_1), (.slice A0_2 l0_2.length c0_2)] 37 (0, 0))) ∧ Aside0 (wc.heap[gb444]? = some (.cells #[(.slice A1_0 l1_0.length c1_0), (.slice A1_1 l1_1.length c1_1), (.slice A1_2 l1_2.length c1_2)] 37 (0, 0))) ∧ Aside0 (Below w.heap.size w wc))
 case first =>
  have H := HC3.out
  clear HC3
  by_cases c6 : (l0_0.length : Int) = (l1_0.length : Int)
  · rw [if_pos c6] at H
    have c6b0 : ((l0_0.length : Int) == (l1_0.length : Int)) = true := beq_iff_eq.mpr c6
    have c6b1 : ((l0_0.length : Int) != (l1_0.length : Int)) = false := bne_eq_false_iff_eq.mpr c6
    have c6b2 : (l0_0.length == l1_0.length) = true := by first | simpa using c6 | (simp at c6 ⊢; omega)
    clear c6
    (first | rw [c6b0] | (simp only [i64_w, i32_w]; rw [c6b0]) | skip)
    by_cases c7 : (l0_1.length : Int) = (l1_1.length : Int)
    · rw [if_pos c7] at H
      have c7b0 : ((l0_1.length : Int) == (l1_1.length : Int)) = true := beq_iff_eq.mpr c7
      have c7b1 : ((l0_1.length : Int) != (l1_1.length : Int)) = false := bne_eq_false_iff_eq.mpr c7
      have c7b2 : (l0_1.length == l1_1.length) = true := by first | simpa using c7 | (simp at c7 ⊢; omega)
      clear c7
      have H' := Aside0.mk H
      clear H
      have hnb8 := NB443_444.out
      have hnc8 := NB444_443.out
      have hcz9_0 : w5.cell? ⟨gb443, 0, none⟩ = some (.slice A0_0 l0_0.length c0_0) := (blk_cell BK443.out 0).trans rfl
      have hcz9_1 : w5.cell? ⟨gb443, 1, none⟩ = some (.slice A0_1 l0_1.length c0_1) := (blk_cell BK443.out 1).trans rfl
      have hcz9_2 : w5.cell? ⟨gb443, 2, none⟩ = some (.slice A0_2 l0_2.length c0_2) := (blk_cell BK443.out 2).trans rfl
      have hfz9_0 := blk_frozen BK443.out 0
      have hfz9_1 := blk_frozen BK443.out 1
      have hfz9_2 := blk_frozen BK443.out 2
      have hcz10_0 : w5.cell? ⟨gb444, 0, none⟩ = some (.slice A1_0 l1_0.length c1_0) := (blk_cell BK444.out 0).trans rfl
      have hcz10_1 : w5.cell? ⟨gb444, 1, none⟩ = some (.slice A1_1 l1_1.length c1_1) := (blk_cell BK444.out 1).trans rfl
      have hcz10_2 : w5.cell? ⟨gb444, 2, none⟩ = some (.slice A1_2 l1_2.length c1_2) := (blk_cell BK444.out 2).trans rfl
      have hfz10_0 := blk_frozen BK444.out 0
      have hfz10_1 := blk_frozen BK444.out 1
      have hfz10_2 := blk_frozen BK444.out 2
      go_wp2
      repeat (go_quiet (fail); try go_wp2)
      go_meet
      case rel => exact ⟨_, (((l0_2.length : Int) != (l1_2.length : Int))), (by first | rfl | (simp; done) | (simp [*]; done)), H', ⟨by first | omega | exact Nat.le_refl _⟩, ⟨by (with_reducible repeat (first | refine blk_drewN ?_ _ | refine blk_drew ?_ | refine blk_alloc ?_ _)); exact BK443.out⟩, ⟨by (with_reducible repeat (first | refine blk_drewN ?_ _ | refine blk_drew ?_ | refine blk_alloc ?_ _)); exact BK444.out⟩, ⟨by repeat (first | (with_reducible first | exact HB.out | apply below_alloc | apply pw_below_drewN | apply below_drew1 | refine below_set ?_ GE443.out | refine below_set ?_ GE444.out) | exact HB.out)⟩⟩
    · rw [if_neg c7] at H
      have c7b0 : ((l0_1.length : Int) == (l1_1.length : Int)) = false := beq_eq_false_iff_ne.mpr c7
      have c7b1 : ((l0_1.length : Int) != (l1_1.length : Int)) = true := bne_iff_ne.mpr c7
      have c7b2 : (l0_1.length == l1_1.length) = false := by first | simpa using c7 | (simp at c7 ⊢; omega)
      have H' := Aside0.mk H
      clear H
      have hnb11 := NB443_444.out
      have hnc11 := NB444_443.out
      have hcz12_0 : w5.cell? ⟨gb443, 0, none⟩ = some (.slice A0_0 l0_0.length c0_0) := (blk_cell BK443.out 0).trans rfl
      have hcz12_1 : w5.cell? ⟨gb443, 1, none⟩ = some (.slice A0_1 l0_1.length c0_1) := (blk_cell BK443.out 1).trans rfl
      have hcz12_2 : w5.cell? ⟨gb443, 2, none⟩ = some (.slice A0_2 l0_2.length c0_2) := (blk_cell BK443.out 2).trans rfl
      have hfz12_0 := blk_frozen BK443.out 0
      have hfz12_1 := blk_frozen BK443.out 1
      have hfz12_2 := blk_frozen BK443.out 2
      have hcz13_0 : w5.cell? ⟨gb444, 0, none⟩ = some (.slice A1_0 l1_0.length c1_0) := (blk_cell BK444.out 0).trans rfl
      have hcz13_1 : w5.cell? ⟨gb444, 1, none⟩ = some (.slice A1_1 l1_1.length c1_1) := (blk_cell BK444.out 1).trans rfl
      have hcz13_2 : w5.cell? ⟨gb444, 2, none⟩ = some (.slice A1_2 l1_2.length c1_2) := (blk_cell BK444.out 2).trans rfl
      have hfz13_0 := blk_frozen BK444.out 0
      have hfz13_1 := blk_frozen BK444.out 1
      have hfz13_2 := blk_frozen BK444.out 2
      go_wp2
      repeat (go_quiet (fail); try go_wp2)
      go_meet
      case rel => exact ⟨_, (true), (by first | rfl | (simp; done) | (simp [*]; done)), H', ⟨by first | omega | exact Nat.le_refl _⟩, ⟨by (with_reducible repeat (first | refine blk_drewN ?_ _ | refine blk_drew ?_ | refine blk_alloc ?_ _)); exact BK443.out⟩, ⟨by (with_reducible repeat (first | refine blk_drewN ?_ _ | refine blk_drew ?_ | refine blk_alloc ?_ _)); exact BK444.out⟩, ⟨by repeat (first | (with_reducible first | exact HB.out | apply below_alloc | apply pw_below_drewN | apply below_drew1 | refine below_set ?_ GE443.out | refine below_set ?_ GE444.out) | exact HB.out)⟩⟩
  · rw [if_neg c6] at H
    have c6b0 : ((l0_0.length : Int) == (l1_0.length : Int)) = false := beq_eq_false_iff_ne.mpr c6
    have c6b1 : ((l0_0.length : Int) != (l1_0.length : Int)) = true := bne_iff_ne.mpr c6
    have c6b2 : (l0_0.length == l1_0.length) = false := by first | simpa using c6 | (simp at c6 ⊢; omega)
    (first | rw [c6b0] | (simp only [i64_w, i32_w]; rw [c6b0]) | skip)
    have H' := Aside0.mk H
    clear H
    have hnb14 := NB443_444.out
    have hnc14 := NB444_443.out
    have hcz15_0 : w5.cell? ⟨gb443, 0, none⟩ = some (.slice A0_0 l0_0.length c0_0) := (blk_cell BK443.out 0).trans rfl
    have hcz15_1 : w5.cell? ⟨gb443, 1, none⟩ = some (.slice A0_1 l0_1.length c0_1) := (blk_cell BK443.out 1).trans rfl
    have hcz15_2 : w5.cell? ⟨gb443, 2, none⟩ = some (.slice A0_2 l0_2.length c0_2) := (blk_cell BK443.out 2).trans rfl
    have hfz15_0 := blk_frozen BK443.out 0
    have hfz15_1 := blk_frozen BK443.out 1
    have hfz15_2 := blk_frozen BK443.out 2
    have hcz16_0 : w5.cell? ⟨gb444, 0, none⟩ = some (.slice A1_0 l1_0.length c1_0) := (blk_cell BK444.out 0).trans rfl
    have hcz16_1 : w5.cell? ⟨gb444, 1, none⟩ = some (.slice A1_1 l1_1.length c1_1) := (blk_cell BK444.out 1).trans rfl
    have hcz16_2 : w5.cell? ⟨gb444, 2, none⟩ = some (.slice A1_2 l1_2.length c1_2) := (blk_cell BK444.out 2).trans rfl
    have hfz16_0 := blk_frozen BK444.out 0
    have hfz16_1 := blk_frozen BK444.out 1
    have hfz16_2 := blk_frozen BK444.out 2
    go_wp2
    repeat (go_quiet (fail); try go_wp2)
    go_meet
    case rel => exact ⟨_, (true), (by first | rfl | (simp; done) | (simp [*]; done)), H', ⟨by first | omega | exact Nat.le_refl _⟩, ⟨by (with_reducible repeat (first | refine blk_drewN ?_ _ | refine blk_drew ?_ | refine blk_alloc ?_ _)); exact BK443.out⟩, ⟨by (with_reducible repeat (first | refine blk_drewN ?_ _ | refine blk_drew ?_ | refine blk_alloc ?_ _)); exact BK444.out⟩, ⟨by repeat (first | (with_reducible first | exact HB.out | apply below_alloc | apply pw_below_drewN | apply below_drew1 | refine below_set ?_ GE443.out | refine below_set ?_ GE444.out) | exact HB.out)⟩⟩
 case rest =>
  clear HC3
  try clear c1
  try clear p2
  try clear c6
  try clear c6b0
  try clear c6b1
  try clear c6b2
  try clear c7
  try clear c7b0
  try clear c7b1
  try clear c7b2
  try clear c8
  try clear c11
  try clear c12
  try clear c14
  try clear hcz10_0
  try clear hcz10_1
  try clear hcz10_2
  try clear hcz12_0
  try clear hcz12_1
  try clear hcz12_2
  try clear hcz13_0
  try clear hcz13_1
  try clear hcz13_2
  try clear hcz15_0
  try clear hcz15_1
  try clear hcz15_2
  try clear hcz16_0
  try clear hcz16_1
  try clear hcz16_2
  try clear hcz9_0
  try clear hcz9_1
  try clear hcz9_2
  try clear hfz10_0
  try clear hfz10_1
  try clear hfz10_2
  try clear hfz12_0
  try clear hfz12_1
  try clear hfz12_2
  try clear hfz13_0
  try clear hfz13_1
  try clear hfz13_2
  try clear hfz15_0
  try clear hfz15_1
  try clear hfz15_2
  try clear hfz16_0
  try clear hfz16_1
  try clear hfz16_2
  try clear hfz9_0
  try clear hfz9_1
  try clear hfz9_2
  obtain ⟨kq, x32_2, rfl, HA, HJ2, BK443, BK444, HB⟩ := hcut
  cases kq with
  | zero => exact absurd HA.out (by simp [seneschalref17_Same.j0])
  | succ kj2 =>
   have H := HA.out
   clear HA
   simp only [seneschalref17_Same.j0] at H
   by_cases c17 : x32_2 = true
   · subst c17
     have H1 : (some false) = some r := by rw [if_pos rfl] at H; exact H
     clear H
     have H := H1
     clear H1
     obtain rfl := Option.some.inj H
     go_wp2
     repeat (go_quiet (fail); try go_wp2)
     go_ret
     exact ⟨by first | rfl | (simp [errW_none, errW_some] <;> rfl) | (simp [*, errW_none, errW_some] <;> rfl), by repeat (first | (with_reducible first | exact HB.out | apply below_alloc | apply pw_below_drewN | apply below_drew1 | refine below_set ?_ GE443.out | refine below_set ?_ GE444.out) | exact HB.out)⟩
   · replace c17 := Bool.eq_false_iff.mpr c17
     subst c17
     have H1 : (seneschalref17_Same.l0 kj2 0 l0_0 l0_1 l0_2 l1_0 l1_1 l1_2) = some r := by rw [if_neg (show ¬ (false = true) by decide)] at H; exact H
     clear H
     have H := H1
     clear H1
     have H' := Aside0.mk H
     clear H
     go_wp2
     repeat (go_quiet (fail); try go_wp2)
     go_loopg [5] kj2 (fun kq v5 w' => ∃ (x5_2 : Int), v5 = .int .i64 x5_2 ∧ Aside0 (seneschalref17_Same.l0 kq x5_2 l0_0 l0_1 l0_2 l1_0 l1_1 l1_2 = some r) ∧ Aside0 (kq ≤ kj2) ∧ Aside0 (w'.heap[gb443]? = some (.cells #[(.slice A0_0 l0_0.length c0_0), (.slice A0_1 l0_1.length c0_1), (.slice A0_2 l0_2.length c0_2)] 37 (0, 0))) ∧ Aside0 (w'.heap[gb444]? = some (.cells #[(.slice A1_0 l1_0.length c1_0), (.slice A1_1 l1_1.length c1_1), (.slice A1_2 l1_2.length c1_2)] 37 (0, 0))) ∧ Aside0 (Below w.heap.size w w'))
     case atStart => exact ⟨(0), (by first | rfl | (simp; done) | (simp [*]; done)), H', ⟨Nat.le_refl _⟩, ⟨by (with_reducible repeat (first | refine blk_drewN ?_ _ | refine blk_drew ?_ | refine blk_alloc ?_ _)); exact BK443.out⟩, ⟨by (with_reducible repeat (first | refine blk_drewN ?_ _ | refine blk_drew ?_ | refine blk_alloc ?_ _)); exact BK444.out⟩, ⟨by repeat (first | (with_reducible first | exact HB.out | apply below_alloc | apply pw_below_drewN | apply below_drew1 | refine below_set ?_ GE443.out | refine below_set ?_ GE444.out) | exact HB.out)⟩⟩
     case round =>
      clear H'
      try clear c1
      try clear p2
      try clear c6
      try clear c6b0
      try clear c6b1
      try clear c6b2
      try clear c7
      try clear c7b0
      try clear c7b1
      try clear c7b2
      try clear c8
      try clear c11
      try clear c12
      try clear c14
      try clear c17
      try clear hcz10_0
      try clear hcz10_1
      try clear hcz10_2
      try clear hcz12_0
      try clear hcz12_1
      try clear hcz12_2
      try clear hcz13_0
      try clear hcz13_1
      try clear hcz13_2
      try clear hcz15_0
      try clear hcz15_1
      try clear hcz15_2
      try clear hcz16_0
      try clear hcz16_1
      try clear hcz16_2
      try clear hcz9_0
      try clear hcz9_1
      try clear hcz9_2
      try clear hfz10_0
      try clear hfz10_1
      try clear hfz10_2
      try clear hfz12_0
      try clear hfz12_1
      try clear hfz12_2
      try clear hfz13_0
      try clear hfz13_1
      try clear hfz13_2
      try clear hfz15_0
      try clear hfz15_1
      try clear hfz15_2
      try clear hfz16_0
      try clear hfz16_1
      try clear hfz16_2
      try clear hfz9_0
      try clear hfz9_1
      try clear hfz9_2
      try clear p2
      obtain ⟨x5_2, rfl, HA, HK2, BK443, BK444, HB⟩ := hrel
      cases gk with
      | zero => exact absurd HA.out (by simp [seneschalref17_Same.l0])
      | succ k2 =>
       have H := HA.out
       clear HA
       simp only [seneschalref17_Same.l0] at H
       by_cases c18 : x5_2 < (l0_0.length : Int)
       · rw [if_pos c18] at H
         have c18b0 : decide (x5_2 < (l0_0.length : Int)) = true := decide_eq_true c18
         clear c18
         by_cases c19 : 0 ≤ x5_2
         · rw [if_pos c19] at H
           have c19b0 : decide (0 ≤ x5_2) = true := decide_eq_true c19
           clear c19
           by_cases c20 : x5_2 < (l1_0.length : Int)
           · rw [if_pos c20] at H
             have c20b0 : decide (x5_2 < (l1_0.length : Int)) = true := decide_eq_true c20
             clear c20
             by_cases c21 : ((!(((rd_T43 l0_0 x5_2).f0.f0) == ((rd_T43 l1_0 x5_2).f0.f0)) || (!(((rd_T43 l0_0 x5_2).f0.f1) == ((rd_T43 l1_0 x5_2).f0.f1)) || (!(((rd_T43 l0_0 x5_2).f0.f2) == ((rd_T43 l1_0 x5_2).f0.f2))))) || (!(((rd_T43 l0_0 x5_2).f1) == ((rd_T43 l1_0 x5_2).f1)))) = true
             · rw [if_pos c21] at H
               have c21b0 : ((!(((rd_T43 l0_0 x5_2).f0.f0) == ((rd_T43 l1_0 x5_2).f0.f0)) || (!(((rd_T43 l0_0 x5_2).f0.f1) == ((rd_T43 l1_0 x5_2).f0.f1)) || (!(((rd_T43 l0_0 x5_2).f0.f2) == ((rd_T43 l1_0 x5_2).f0.f2))))) || (!(((rd_T43 l0_0 x5_2).f1) == ((rd_T43 l1_0 x5_2).f1)))) = true := c21
               clear c21
               obtain rfl := Option.some.inj H
               have hnb22 := NB443_444.out
               have hnc22 := NB444_443.out
               have hcz23_0 : wr.cell? ⟨gb443, 0, none⟩ = some (.slice A0_0 l0_0.length c0_0) := (blk_cell BK443.out 0).trans rfl
               have hcz23_1 : wr.cell? ⟨gb443, 1, none⟩ = some (.slice A0_1 l0_1.length c0_1) := (blk_cell BK443.out 1).trans rfl
               have hcz23_2 : wr.cell? ⟨gb443, 2, none⟩ = some (.slice A0_2 l0_2.length c0_2) := (blk_cell BK443.out 2).trans rfl
               have hfz23_0 := blk_frozen BK443.out 0
               have hfz23_1 := blk_frozen BK443.out 1
               have hfz23_2 := blk_frozen BK443.out 2
               have p445 : 0 ≤ (x5_2 : Int) := of_decide_eq_true (by first | (with_reducible assumption) | assumption)
               have q445 : x5_2 < (l0_0.length : Int) := of_decide_eq_true (by first | (with_reducible assumption) | assumption)
               obtain ⟨ad445, e445, hx445_0, hx445_1, hx445_2, hx445_3⟩ := at_T43 HR0_0.out x5_2 p445 q445
               cases e445
               replace hx445_0 := (HB.out.cell (World.block_lt_of_cell? w _ hx445_0)).trans hx445_0
               replace hx445_1 := (HB.out.cell (World.block_lt_of_cell? w _ hx445_1)).trans hx445_1
               replace hx445_2 := (HB.out.cell (World.block_lt_of_cell? w _ hx445_2)).trans hx445_2
               replace hx445_3 := (HB.out.cell (World.block_lt_of_cell? w _ hx445_3)).trans hx445_3
               replace p445 := eq_true p445
               replace q445 := eq_true q445
               have hcz24_0 : wr.cell? ⟨gb444, 0, none⟩ = some (.slice A1_0 l1_0.length c1_0) := (blk_cell BK444.out 0).trans rfl
               have hcz24_1 : wr.cell? ⟨gb444, 1, none⟩ = some (.slice A1_1 l1_1.length c1_1) := (blk_cell BK444.out 1).trans rfl
               have hcz24_2 : wr.cell? ⟨gb444, 2, none⟩ = some (.slice A1_2 l1_2.length c1_2) := (blk_cell BK444.out 2).trans rfl
               have hfz24_0 := blk_frozen BK444.out 0
               have hfz24_1 := blk_frozen BK444.out 1
               have hfz24_2 := blk_frozen BK444.out 2
               have p446 : 0 ≤ (x5_2 : Int) := of_decide_eq_true (by first | (with_reducible assumption) | assumption)
               have q446 : x5_2 < (l1_0.length : Int) := of_decide_eq_true (by first | (with_reducible assumption) | assumption)
               obtain ⟨ad446, e446, hx446_0, hx446_1, hx446_2, hx446_3⟩ := at_T43 HR1_0.out x5_2 p446 q446
               cases e446
               replace hx446_0 := (HB.out.cell (World.block_lt_of_cell? w _ hx446_0)).trans hx446_0
               replace hx446_1 := (HB.out.cell (World.block_lt_of_cell? w _ hx446_1)).trans hx446_1
               replace hx446_2 := (HB.out.cell (World.block_lt_of_cell? w _ hx446_2)).trans hx446_2
               replace hx446_3 := (HB.out.cell (World.block_lt_of_cell? w _ hx446_3)).trans hx446_3
               replace p446 := eq_true p446
               replace q446 := eq_true q446
               go_wp2
               repeat (go_quiet (fail); try go_wp2)
               go_ret
               exact ⟨by first | rfl | (simp [errW_none, errW_some] <;> rfl) | (simp [*, errW_none, errW_some] <;> rfl), by repeat (first | (with_reducible first | exact HB.out | apply below_alloc | apply pw_below_drewN | apply below_drew1 | refine below_set ?_ GE443.out | refine below_set ?_ GE444.out) | exact HB.out)⟩
             · rw [if_neg c21] at H
               have c21b0 : ((!(((rd_T43 l0_0 x5_2).f0.f0) == ((rd_T43 l1_0 x5_2).f0.f0)) || (!(((rd_T43 l0_0 x5_2).f0.f1) == ((rd_T43 l1_0 x5_2).f0.f1)) || (!(((rd_T43 l0_0 x5_2).f0.f2) == ((rd_T43 l1_0 x5_2).f0.f2))))) || (!(((rd_T43 l0_0 x5_2).f1) == ((rd_T43 l1_0 x5_2).f1)))) = false := by simpa using c21
               clear c21
               have H' := Aside0.mk H
               clear H
               have hnb25 := NB443_444.out
               have hnc25 := NB444_443.out
               have hcz26_0 : wr.cell? ⟨gb443, 0, none⟩ = some (.slice A0_0 l0_0.length c0_0) := (blk_cell BK443.out 0).trans rfl
               have hcz26_1 : wr.cell? ⟨gb443, 1, none⟩ = some (.slice A0_1 l0_1.length c0_1) := (blk_cell BK443.out 1).trans rfl
               have hcz26_2 : wr.cell? ⟨gb443, 2, none⟩ = some (.slice A0_2 l0_2.length c0_2) := (blk_cell BK443.out 2).trans rfl
               have hfz26_0 := blk_frozen BK443.out 0
               have hfz26_1 := blk_frozen BK443.out 1
               have hfz26_2 := blk_frozen BK443.out 2
               have p445 : 0 ≤ (x5_2 : Int) := of_decide_eq_true (by first | (with_reducible assumption) | assumption)
               have q445 : x5_2 < (l0_0.length : Int) := of_decide_eq_true (by first | (with_reducible assumption) | assumption)
               obtain ⟨ad445, e445, hx445_0, hx445_1, hx445_2, hx445_3⟩ := at_T43 HR0_0.out x5_2 p445 q445
               cases e445
               replace hx445_0 := (HB.out.cell (World.block_lt_of_cell? w _ hx445_0)).trans hx445_0
               replace hx445_1 := (HB.out.cell (World.block_lt_of_cell? w _ hx445_1)).trans hx445_1
               replace hx445_2 := (HB.out.cell (World.block_lt_of_cell? w _ hx445_2)).trans hx445_2
               replace hx445_3 := (HB.out.cell (World.block_lt_of_cell? w _ hx445_3)).trans hx445_3
               replace p445 := eq_true p445
               replace q445 := eq_true q445
               have hcz27_0 : wr.cell? ⟨gb444, 0, none⟩ = some (.slice A1_0 l1_0.length c1_0) := (blk_cell BK444.out 0).trans rfl
               have hcz27_1 : wr.cell? ⟨gb444, 1, none⟩ = some (.slice A1_1 l1_1.length c1_1) := (blk_cell BK444.out 1).trans rfl
               have hcz27_2 : wr.cell? ⟨gb444, 2, none⟩ = some (.slice A1_2 l1_2.length c1_2) := (blk_cell BK444.out 2).trans rfl
               have hfz27_0 := blk_frozen BK444.out 0
               have hfz27_1 := blk_frozen BK444.out 1
               have hfz27_2 := blk_frozen BK444.out 2
               have p446 : 0 ≤ (x5_2 : Int) := of_decide_eq_true (by first | (with_reducible assumption) | assumption)
               have q446 : x5_2 < (l1_0.length : Int) := of_decide_eq_true (by first | (with_reducible assumption) | assumption)
               obtain ⟨ad446, e446, hx446_0, hx446_1, hx446_2, hx446_3⟩ := at_T43 HR1_0.out x5_2 p446 q446
               cases e446
               replace hx446_0 := (HB.out.cell (World.block_lt_of_cell? w _ hx446_0)).trans hx446_0
               replace hx446_1 := (HB.out.cell (World.block_lt_of_cell? w _ hx446_1)).trans hx446_1
               replace hx446_2 := (HB.out.cell (World.block_lt_of_cell? w _ hx446_2)).trans hx446_2
               replace hx446_3 := (HB.out.cell (World.block_lt_of_cell? w _ hx446_3)).trans hx446_3
               replace p446 := eq_true p446
               replace q446 := eq_true q446
               go_wp2
               repeat (go_quiet (fail); try go_wp2)
               go_roundg k2
               case measure => have := HJ2.out; have := HK2.out; omega
               case rel => exact ⟨(wrap64 (x5_2 + 1)), (by first | rfl | (simp; done) | (simp [*]; done)), H', ⟨by have := HJ2.out; have := HK2.out; omega⟩, ⟨by (with_reducible repeat (first | refine blk_drewN ?_ _ | refine blk_drew ?_ | refine blk_alloc ?_ _)); exact BK443.out⟩, ⟨by (with_reducible repeat (first | refine blk_drewN ?_ _ | refine blk_drew ?_ | refine blk_alloc ?_ _)); exact BK444.out⟩, ⟨by repeat (first | (with_reducible first | exact HB.out | apply below_alloc | apply pw_below_drewN | apply below_drew1 | refine below_set ?_ GE443.out | refine below_set ?_ GE444.out) | exact HB.out)⟩⟩
           · rw [if_neg c20] at H
             exact absurd H (by simp)
         · rw [if_neg c19] at H
           exact absurd H (by simp)
       · rw [if_neg c18] at H
         have c18b0 : decide (x5_2 < (l0_0.length : Int)) = false := decide_eq_false c18
         clear c18
         have H' := Aside0.mk H
         clear H
         have hnb28 := NB443_444.out
         have hnc28 := NB444_443.out
         have hcz29_0 : wr.cell? ⟨gb443, 0, none⟩ = some (.slice A0_0 l0_0.length c0_0) := (blk_cell BK443.out 0).trans rfl
         have hcz29_1 : wr.cell? ⟨gb443, 1, none⟩ = some (.slice A0_1 l0_1.length c0_1) := (blk_cell BK443.out 1).trans rfl
         have hcz29_2 : wr.cell? ⟨gb443, 2, none⟩ = some (.slice A0_2 l0_2.length c0_2) := (blk_cell BK443.out 2).trans rfl
         have hfz29_0 := blk_frozen BK443.out 0
         have hfz29_1 := blk_frozen BK443.out 1
         have hfz29_2 := blk_frozen BK443.out 2
         go_wp2
         repeat (go_quiet (fail); try go_wp2)
         go_loopg [6] k2 (fun kq v6 w' => ∃ (x6_3 : Int), v6 = .int .i64 x6_3 ∧ Aside0 (seneschalref17_Same.l1 kq x6_3 l0_0 l0_1 l0_2 l1_0 l1_1 l1_2 = some r) ∧ Aside0 (kq ≤ k2) ∧ Aside0 (w'.heap[gb443]? = some (.cells #[(.slice A0_0 l0_0.length c0_0), (.slice A0_1 l0_1.length c0_1), (.slice A0_2 l0_2.length c0_2)] 37 (0, 0))) ∧ Aside0 (w'.heap[gb444]? = some (.cells #[(.slice A1_0 l1_0.length c1_0), (.slice A1_1 l1_1.length c1_1), (.slice A1_2 l1_2.length c1_2)] 37 (0, 0))) ∧ Aside0 (Below w.heap.size w w'))
         case atStart => exact ⟨(0), (by first | rfl | (simp; done) | (simp [*]; done)), H', ⟨Nat.le_refl _⟩, ⟨by (with_reducible repeat (first | refine blk_drewN ?_ _ | refine blk_drew ?_ | refine blk_alloc ?_ _)); exact BK443.out⟩, ⟨by (with_reducible repeat (first | refine blk_drewN ?_ _ | refine blk_drew ?_ | refine blk_alloc ?_ _)); exact BK444.out⟩, ⟨by repeat (first | (with_reducible first | exact HB.out | apply below_alloc | apply pw_below_drewN | apply below_drew1 | refine below_set ?_ GE443.out | refine below_set ?_ GE444.out) | exact HB.out)⟩⟩
         case round =>
          clear H'
          try clear c1
          try clear c2
          try clear p2
          try clear p4
          try clear q4
          try clear hx4
          try clear c6
          try clear c6b0
          try clear c6b1
          try clear c6b2
          try clear p6
          try clear c7
          try clear c7b0
          try clear c7b1
          try clear c7b2
          try clear c8
          try clear c11
          try clear c12
          try clear c14
          try clear c17
          try clear c18
          try clear c18b0
          try clear c19
          try clear c19b0
          try clear c20
          try clear c20b0
          try clear c21
          try clear c21b0
          try clear c22
          try clear c25
          try clear c28
          try clear hcz10_0
          try clear hcz10_1
          try clear hcz10_2
          try clear hcz12_0
          try clear hcz12_1
          try clear hcz12_2
          try clear hcz13_0
          try clear hcz13_1
          try clear hcz13_2
          try clear hcz15_0
          try clear hcz15_1
          try clear hcz15_2
          try clear hcz16_0
          try clear hcz16_1
          try clear hcz16_2
          try clear hcz23_0
          try clear hcz23_1
          try clear hcz23_2
          try clear hcz24_0
          try clear hcz24_1
          try clear hcz24_2
          try clear hcz26_0
          try clear hcz26_1
          try clear hcz26_2
          try clear hcz27_0
          try clear hcz27_1
          try clear hcz27_2
          try clear hcz29_0
          try clear hcz29_1
          try clear hcz29_2
          try clear hcz9_0
          try clear hcz9_1
          try clear hcz9_2
          try clear hfz10_0
          try clear hfz10_1
          try clear hfz10_2
          try clear hfz12_0
          try clear hfz12_1
          try clear hfz12_2
          try clear hfz13_0
          try clear hfz13_1
          try clear hfz13_2
          try clear hfz15_0
          try clear hfz15_1
          try clear hfz15_2
          try clear hfz16_0
          try clear hfz16_1
          try clear hfz16_2
          try clear hfz23_0
          try clear hfz23_1
          try clear hfz23_2
          try clear hfz24_0
          try clear hfz24_1
          try clear hfz24_2
          try clear hfz26_0
          try clear hfz26_1
          try clear hfz26_2
          try clear hfz27_0
          try clear hfz27_1
          try clear hfz27_2
          try clear hfz29_0
          try clear hfz29_1
          try clear hfz29_2
          try clear hfz9_0
          try clear hfz9_1
          try clear hfz9_2
          try clear hx445_0
          try clear hx445_1
          try clear hx445_2
          try clear hx445_3
          try clear hx446_0
          try clear hx446_1
          try clear hx446_2
          try clear hx446_3
          try clear p2
          try clear p445
          try clear p446
          try clear q445
          try clear q446
          obtain ⟨x6_3, rfl, HA, HK3, BK443, BK444, HB⟩ := hrel
          cases gk with
          | zero => exact absurd HA.out (by simp [seneschalref17_Same.l1])
          | succ k3 =>
           have H := HA.out
           clear HA
           simp only [seneschalref17_Same.l1] at H
           by_cases c30 : x6_3 < (l0_1.length : Int)
           · rw [if_pos c30] at H
             have c30b0 : decide (x6_3 < (l0_1.length : Int)) = true := decide_eq_true c30
             clear c30
             by_cases c31 : 0 ≤ x6_3
             · rw [if_pos c31] at H
               have c31b0 : decide (0 ≤ x6_3) = true := decide_eq_true c31
               clear c31
               by_cases c32 : x6_3 < (l1_1.length : Int)
               · rw [if_pos c32] at H
                 have c32b0 : decide (x6_3 < (l1_1.length : Int)) = true := decide_eq_true c32
                 clear c32
                 by_cases c33 : (!(((rd_T24 l0_1 x6_3).f0) == ((rd_T24 l1_1 x6_3).f0)) || (!(((rd_T24 l0_1 x6_3).f1) == ((rd_T24 l1_1 x6_3).f1)) || (!(((rd_T24 l0_1 x6_3).f2) == ((rd_T24 l1_1 x6_3).f2))))) = true
                 · rw [if_pos c33] at H
                   have c33b0 : (!(((rd_T24 l0_1 x6_3).f0) == ((rd_T24 l1_1 x6_3).f0)) || (!(((rd_T24 l0_1 x6_3).f1) == ((rd_T24 l1_1 x6_3).f1)) || (!(((rd_T24 l0_1 x6_3).f2) == ((rd_T24 l1_1 x6_3).f2))))) = true := c33
                   clear c33
                   obtain rfl := Option.some.inj H
                   have hnb34 := NB443_444.out
                   have hnc34 := NB444_443.out
                   have hcz35_0 : wr.cell? ⟨gb443, 0, none⟩ = some (.slice A0_0 l0_0.length c0_0) := (blk_cell BK443.out 0).trans rfl
                   have hcz35_1 : wr.cell? ⟨gb443, 1, none⟩ = some (.slice A0_1 l0_1.length c0_1) := (blk_cell BK443.out 1).trans rfl
                   have hcz35_2 : wr.cell? ⟨gb443, 2, none⟩ = some (.slice A0_2 l0_2.length c0_2) := (blk_cell BK443.out 2).trans rfl
                   have hfz35_0 := blk_frozen BK443.out 0
                   have hfz35_1 := blk_frozen BK443.out 1
                   have hfz35_2 := blk_frozen BK443.out 2
                   have p447 : 0 ≤ (x6_3 : Int) := of_decide_eq_true (by first | (with_reducible assumption) | assumption)
                   have q447 : x6_3 < (l0_1.length : Int) := of_decide_eq_true (by first | (with_reducible assumption) | assumption)
                   obtain ⟨ad447, e447, hx447_0, hx447_1, hx447_2⟩ := at_T24 HR0_1.out x6_3 p447 q447
                   cases e447
                   replace hx447_0 := (HB.out.cell (World.block_lt_of_cell? w _ hx447_0)).trans hx447_0
                   replace hx447_1 := (HB.out.cell (World.block_lt_of_cell? w _ hx447_1)).trans hx447_1
                   replace hx447_2 := (HB.out.cell (World.block_lt_of_cell? w _ hx447_2)).trans hx447_2
                   replace p447 := eq_true p447
                   replace q447 := eq_true q447
                   have hcz36_0 : wr.cell? ⟨gb444, 0, none⟩ = some (.slice A1_0 l1_0.length c1_0) := (blk_cell BK444.out 0).trans rfl
                   have hcz36_1 : wr.cell? ⟨gb444, 1, none⟩ = some (.slice A1_1 l1_1.length c1_1) := (blk_cell BK444.out 1).trans rfl
                   have hcz36_2 : wr.cell? ⟨gb444, 2, none⟩ = some (.slice A1_2 l1_2.length c1_2) := (blk_cell BK444.out 2).trans rfl
                   have hfz36_0 := blk_frozen BK444.out 0
                   have hfz36_1 := blk_frozen BK444.out 1
                   have hfz36_2 := blk_frozen BK444.out 2
                   have p448 : 0 ≤ (x6_3 : Int) := of_decide_eq_true (by first | (with_reducible assumption) | assumption)
                   have q448 : x6_3 < (l1_1.length : Int) := of_decide_eq_true (by first | (with_reducible assumption) | assumption)
                   obtain ⟨ad448, e448, hx448_0, hx448_1, hx448_2⟩ := at_T24 HR1_1.out x6_3 p448 q448
                   cases e448
                   replace hx448_0 := (HB.out.cell (World.block_lt_of_cell? w _ hx448_0)).trans hx448_0
                   replace hx448_1 := (HB.out.cell (World.block_lt_of_cell? w _ hx448_1)).trans hx448_1
                   replace hx448_2 := (HB.out.cell (World.block_lt_of_cell? w _ hx448_2)).trans hx448_2
                   replace p448 := eq_true p448
                   replace q448 := eq_true q448
                   go_wp2
                   repeat (go_quiet (fail); try go_wp2)
                   go_ret
                   exact ⟨by first | rfl | (simp [errW_none, errW_some] <;> rfl) | (simp [*, errW_none, errW_some] <;> rfl), by repeat (first | (with_reducible first | exact HB.out | apply below_alloc | apply pw_below_drewN | apply below_drew1 | refine below_set ?_ GE443.out | refine below_set ?_ GE444.out) | exact HB.out)⟩
                 · rw [if_neg c33] at H
                   have c33b0 : (!(((rd_T24 l0_1 x6_3).f0) == ((rd_T24 l1_1 x6_3).f0)) || (!(((rd_T24 l0_1 x6_3).f1) == ((rd_T24 l1_1 x6_3).f1)) || (!(((rd_T24 l0_1 x6_3).f2) == ((rd_T24 l1_1 x6_3).f2))))) = false := by simpa using c33
                   clear c33
                   have H' := Aside0.mk H
                   clear H
                   have hnb37 := NB443_444.out
                   have hnc37 := NB444_443.out
                   have hcz38_0 : wr.cell? ⟨gb443, 0, none⟩ = some (.slice A0_0 l0_0.length c0_0) := (blk_cell BK443.out 0).trans rfl
                   have hcz38_1 : wr.cell? ⟨gb443, 1, none⟩ = some (.slice A0_1 l0_1.length c0_1) := (blk_cell BK443.out 1).trans rfl
                   have hcz38_2 : wr.cell? ⟨gb443, 2, none⟩ = some (.slice A0_2 l0_2.length c0_2) := (blk_cell BK443.out 2).trans rfl
                   have hfz38_0 := blk_frozen BK443.out 0
                   have hfz38_1 := blk_frozen BK443.out 1
                   have hfz38_2 := blk_frozen BK443.out 2
                   have p447 : 0 ≤ (x6_3 : Int) := of_decide_eq_true (by first | (with_reducible assumption) | assumption)
                   have q447 : x6_3 < (l0_1.length : Int) := of_decide_eq_true (by first | (with_reducible assumption) | assumption)
                   obtain ⟨ad447, e447, hx447_0, hx447_1, hx447_2⟩ := at_T24 HR0_1.out x6_3 p447 q447
                   cases e447
                   replace hx447_0 := (HB.out.cell (World.block_lt_of_cell? w _ hx447_0)).trans hx447_0
                   replace hx447_1 := (HB.out.cell (World.block_lt_of_cell? w _ hx447_1)).trans hx447_1
                   replace hx447_2 := (HB.out.cell (World.block_lt_of_cell? w _ hx447_2)).trans hx447_2
                   replace p447 := eq_true p447
                   replace q447 := eq_true q447
                   have hcz39_0 : wr.cell? ⟨gb444, 0, none⟩ = some (.slice A1_0 l1_0.length c1_0) := (blk_cell BK444.out 0).trans rfl
                   have hcz39_1 : wr.cell? ⟨gb444, 1, none⟩ = some (.slice A1_1 l1_1.length c1_1) := (blk_cell BK444.out 1).trans rfl
                   have hcz39_2 : wr.cell? ⟨gb444, 2, none⟩ = some (.slice A1_2 l1_2.length c1_2) := (blk_cell BK444.out 2).trans rfl
                   have hfz39_0 := blk_frozen BK444.out 0
                   have hfz39_1 := blk_frozen BK444.out 1
                   have hfz39_2 := blk_frozen BK444.out 2
                   have p448 : 0 ≤ (x6_3 : Int) := of_decide_eq_true (by first | (with_reducible assumption) | assumption)
                   have q448 : x6_3 < (l1_1.length : Int) := of_decide_eq_true (by first | (with_reducible assumption) | assumption)
                   obtain ⟨ad448, e448, hx448_0, hx448_1, hx448_2⟩ := at_T24 HR1_1.out x6_3 p448 q448
                   cases e448
                   replace hx448_0 := (HB.out.cell (World.block_lt_of_cell? w _ hx448_0)).trans hx448_0
                   replace hx448_1 := (HB.out.cell (World.block_lt_of_cell? w _ hx448_1)).trans hx448_1
                   replace hx448_2 := (HB.out.cell (World.block_lt_of_cell? w _ hx448_2)).trans hx448_2
                   replace p448 := eq_true p448
                   replace q448 := eq_true q448
                   go_wp2
                   repeat (go_quiet (fail); try go_wp2)
                   go_roundg k3
                   case measure => have := HJ2.out; have := HK2.out; have := HK3.out; omega
                   case rel => exact ⟨(wrap64 (x6_3 + 1)), (by first | rfl | (simp; done) | (simp [*]; done)), H', ⟨by have := HJ2.out; have := HK2.out; have := HK3.out; omega⟩, ⟨by (with_reducible repeat (first | refine blk_drewN ?_ _ | refine blk_drew ?_ | refine blk_alloc ?_ _)); exact BK443.out⟩, ⟨by (with_reducible repeat (first | refine blk_drewN ?_ _ | refine blk_drew ?_ | refine blk_alloc ?_ _)); exact BK444.out⟩, ⟨by repeat (first | (with_reducible first | exact HB.out | apply below_alloc | apply pw_below_drewN | apply below_drew1 | refine below_set ?_ GE443.out | refine below_set ?_ GE444.out) | exact HB.out)⟩⟩
               · rw [if_neg c32] at H
                 exact absurd H (by simp)
             · rw [if_neg c31] at H
               exact absurd H (by simp)
           · rw [if_neg c30] at H
             have c30b0 : decide (x6_3 < (l0_1.length : Int)) = false := decide_eq_false c30
             clear c30
             have H' := Aside0.mk H
             clear H
             have hnb40 := NB443_444.out
             have hnc40 := NB444_443.out
             have hcz41_0 : wr.cell? ⟨gb443, 0, none⟩ = some (.slice A0_0 l0_0.length c0_0) := (blk_cell BK443.out 0).trans rfl
             have hcz41_1 : wr.cell? ⟨gb443, 1, none⟩ = some (.slice A0_1 l0_1.length c0_1) := (blk_cell BK443.out 1).trans rfl
             have hcz41_2 : wr.cell? ⟨gb443, 2, none⟩ = some (.slice A0_2 l0_2.length c0_2) := (blk_cell BK443.out 2).trans rfl
             have hfz41_0 := blk_frozen BK443.out 0
             have hfz41_1 := blk_frozen BK443.out 1
             have hfz41_2 := blk_frozen BK443.out 2
             go_wp2
             repeat (go_quiet (fail); try go_wp2)
             go_loopg [7] k3 (fun kq v7 w' => ∃ (x7_4 : Int), v7 = .int .i64 x7_4 ∧ Aside0 (seneschalref17_Same.l2 kq x7_4 l0_0 l0_1 l0_2 l1_0 l1_1 l1_2 = some r) ∧ Aside0 (kq ≤ k3) ∧ Aside0 (w'.heap[gb443]? = some (.cells #[(.slice A0_0 l0_0.length c0_0), (.slice A0_1 l0_1.length c0_1), (.slice A0_2 l0_2.length c0_2)] 37 (0, 0))) ∧ Aside0 (w'.heap[gb444]? = some (.cells #[(.slice A1_0 l1_0.length c1_0), (.slice A1_1 l1_1.length c1_1), (.slice A1_2 l1_2.length c1_2)] 37 (0, 0))) ∧ Aside0 (Below w.heap.size w w'))
             case atStart => exact ⟨(0), (by first | rfl | (simp; done) | (simp [*]; done)), H', ⟨Nat.le_refl _⟩, ⟨by (with_reducible repeat (first | refine blk_drewN ?_ _ | refine blk_drew ?_ | refine blk_alloc ?_ _)); exact BK443.out⟩, ⟨by (with_reducible repeat (first | refine blk_drewN ?_ _ | refine blk_drew ?_ | refine blk_alloc ?_ _)); exact BK444.out⟩, ⟨by repeat (first | (with_reducible first | exact HB.out | apply below_alloc | apply pw_below_drewN | apply below_drew1 | refine below_set ?_ GE443.out | refine below_set ?_ GE444.out) | exact HB.out)⟩⟩
             case round =>
              clear H'
              try clear c1
              try clear c2
              try clear p2
              try clear c3
              try clear c4
              try clear p4
              try clear q4
              try clear hx4
              try clear c6
              try clear c6b0
              try clear c6b1
              try clear c6b2
              try clear p6
              try clear c7
              try clear c7b0
              try clear c7b1
              try clear c7b2
              try clear c8
              try clear c11
              try clear c12
              try clear c14
              try clear c17
              try clear c18
              try clear c18b0
              try clear c19
              try clear c19b0
              try clear c20
              try clear c20b0
              try clear c21
              try clear c21b0
              try clear c22
              try clear c25
              try clear c28
              try clear c30
              try clear c30b0
              try clear c31
              try clear c31b0
              try clear c32
              try clear c32b0
              try clear c33
              try clear c33b0
              try clear c34
              try clear c37
              try clear c40
              try clear hcz10_0
              try clear hcz10_1
              try clear hcz10_2
              try clear hcz12_0
              try clear hcz12_1
              try clear hcz12_2
              try clear hcz13_0
              try clear hcz13_1
              try clear hcz13_2
              try clear hcz15_0
              try clear hcz15_1
              try clear hcz15_2
              try clear hcz16_0
              try clear hcz16_1
              try clear hcz16_2
              try clear hcz23_0
              try clear hcz23_1
              try clear hcz23_2
              try clear hcz24_0
              try clear hcz24_1
              try clear hcz24_2
              try clear hcz26_0
              try clear hcz26_1
              try clear hcz26_2
              try clear hcz27_0
              try clear hcz27_1
              try clear hcz27_2
              try clear hcz29_0
              try clear hcz29_1
              try clear hcz29_2
              try clear hcz35_0
              try clear hcz35_1
              try clear hcz35_2
              try clear hcz36_0
              try clear hcz36_1
              try clear hcz36_2
              try clear hcz38_0
              try clear hcz38_1
              try clear hcz38_2
              try clear hcz39_0
              try clear hcz39_1
              try clear hcz39_2
              try clear hcz41_0
              try clear hcz41_1
              try clear hcz41_2
              try clear hcz9_0
              try clear hcz9_1
              try clear hcz9_2
              try clear hfz10_0
              try clear hfz10_1
              try clear hfz10_2
              try clear hfz12_0
              try clear hfz12_1
              try clear hfz12_2
              try clear hfz13_0
              try clear hfz13_1
              try clear hfz13_2
              try clear hfz15_0
              try clear hfz15_1
              try clear hfz15_2
              try clear hfz16_0
              try clear hfz16_1
              try clear hfz16_2
              try clear hfz23_0
              try clear hfz23_1
              try clear hfz23_2
              try clear hfz24_0
              try clear hfz24_1
              try clear hfz24_2
              try clear hfz26_0
              try clear hfz26_1
              try clear hfz26_2
              try clear hfz27_0
              try clear hfz27_1
              try clear hfz27_2
              try clear hfz29_0
              try clear hfz29_1
              try clear hfz29_2
              try clear hfz35_0
              try clear hfz35_1
              try clear hfz35_2
              try clear hfz36_0
              try clear hfz36_1
              try clear hfz36_2
              try clear hfz38_0
              try clear hfz38_1
              try clear hfz38_2
              try clear hfz39_0
              try clear hfz39_1
              try clear hfz39_2
              try clear hfz41_0
              try clear hfz41_1
              try clear hfz41_2
              try clear hfz9_0
              try clear hfz9_1
              try clear hfz9_2
              try clear hx445_0
              try clear hx445_1
              try clear hx445_2
              try clear hx445_3
              try clear hx446_0
              try clear hx446_1
              try clear hx446_2
              try clear hx446_3
              try clear hx447_0
              try clear hx447_1
              try clear hx447_2
              try clear hx448_0
              try clear hx448_1
              try clear hx448_2
              try clear p2
              try clear p4
              try clear p445
              try clear p446
              try clear p447
              try clear p448
              try clear p6
              try clear q4
              try clear q445
              try clear q446
              try clear q447
              try clear q448
              obtain ⟨x7_4, rfl, HA, HK4, BK443, BK444, HB⟩ := hrel
              cases gk with
              | zero => exact absurd HA.out (by simp [seneschalref17_Same.l2])
              | succ k4 =>
               have H := HA.out
               clear HA
               simp only [seneschalref17_Same.l2] at H
               by_cases c42 : x7_4 < (l0_2.length : Int)
               · rw [if_pos c42] at H
                 have c42b0 : decide (x7_4 < (l0_2.length : Int)) = true := decide_eq_true c42
                 clear c42
                 by_cases c43 : 0 ≤ x7_4
                 · rw [if_pos c43] at H
                   have c43b0 : decide (0 ≤ x7_4) = true := decide_eq_true c43
                   clear c43
                   by_cases c44 : x7_4 < (l1_2.length : Int)
                   · rw [if_pos c44] at H
                     have c44b0 : decide (x7_4 < (l1_2.length : Int)) = true := decide_eq_true c44
                     clear c44
                     by_cases c45 : (!(((rd_T45 l0_2 x7_4).f0) == ((rd_T45 l1_2 x7_4).f0)) || (!(((rd_T45 l0_2 x7_4).f1) == ((rd_T45 l1_2 x7_4).f1)))) = true
                     · rw [if_pos c45] at H
                       have c45b0 : (!(((rd_T45 l0_2 x7_4).f0) == ((rd_T45 l1_2 x7_4).f0)) || (!(((rd_T45 l0_2 x7_4).f1) == ((rd_T45 l1_2 x7_4).f1)))) = true := c45
                       clear c45
                       obtain rfl := Option.some.inj H
                       have hnb46 := NB443_444.out
                       have hnc46 := NB444_443.out
                       have hcz47_0 : wr.cell? ⟨gb443, 0, none⟩ = some (.slice A0_0 l0_0.length c0_0) := (blk_cell BK443.out 0).trans rfl
                       have hcz47_1 : wr.cell? ⟨gb443, 1, none⟩ = some (.slice A0_1 l0_1.length c0_1) := (blk_cell BK443.out 1).trans rfl
                       have hcz47_2 : wr.cell? ⟨gb443, 2, none⟩ = some (.slice A0_2 l0_2.length c0_2) := (blk_cell BK443.out 2).trans rfl
                       have hfz47_0 := blk_frozen BK443.out 0
                       have hfz47_1 := blk_frozen BK443.out 1
                       have hfz47_2 := blk_frozen BK443.out 2
                       have p449 : 0 ≤ (x7_4 : Int) := of_decide_eq_true (by first | (with_reducible assumption) | assumption)
                       have q449 : x7_4 < (l0_2.length : Int) := of_decide_eq_true (by first | (with_reducible assumption) | assumption)
                       obtain ⟨ad449, e449, hx449_0, hx449_1⟩ := at_T45 HR0_2.out x7_4 p449 q449
                       cases e449
                       replace hx449_0 := (HB.out.cell (World.block_lt_of_cell? w _ hx449_0)).trans hx449_0
                       replace hx449_1 := (HB.out.cell (World.block_lt_of_cell? w _ hx449_1)).trans hx449_1
                       replace p449 := eq_true p449
                       replace q449 := eq_true q449
                       have hcz48_0 : wr.cell? ⟨gb444, 0, none⟩ = some (.slice A1_0 l1_0.length c1_0) := (blk_cell BK444.out 0).trans rfl
                       have hcz48_1 : wr.cell? ⟨gb444, 1, none⟩ = some (.slice A1_1 l1_1.length c1_1) := (blk_cell BK444.out 1).trans rfl
                       have hcz48_2 : wr.cell? ⟨gb444, 2, none⟩ = some (.slice A1_2 l1_2.length c1_2) := (blk_cell BK444.out 2).trans rfl
                       have hfz48_0 := blk_frozen BK444.out 0
                       have hfz48_1 := blk_frozen BK444.out 1
                       have hfz48_2 := blk_frozen BK444.out 2
                       have p450 : 0 ≤ (x7_4 : Int) := of_decide_eq_true (by first | (with_reducible assumption) | assumption)
                       have q450 : x7_4 < (l1_2.length : Int) := of_decide_eq_true (by first | (with_reducible assumption) | assumption)
                       obtain ⟨ad450, e450, hx450_0, hx450_1⟩ := at_T45 HR1_2.out x7_4 p450 q450
                       cases e450
                       replace hx450_0 := (HB.out.cell (World.block_lt_of_cell? w _ hx450_0)).trans hx450_0
                       replace hx450_1 := (HB.out.cell (World.block_lt_of_cell? w _ hx450_1)).trans hx450_1
                       replace p450 := eq_true p450
                       replace q450 := eq_true q450
                       go_wp2
                       repeat (go_quiet (fail); try go_wp2)
                       go_ret
                       exact ⟨by first | rfl | (simp [errW_none, errW_some] <;> rfl) | (simp [*, errW_none, errW_some] <;> rfl), by repeat (first | (with_reducible first | exact HB.out | apply below_alloc | apply pw_below_drewN | apply below_drew1 | refine below_set ?_ GE443.out | refine below_set ?_ GE444.out) | exact HB.out)⟩
                     · rw [if_neg c45] at H
                       have c45b0 : (!(((rd_T45 l0_2 x7_4).f0) == ((rd_T45 l1_2 x7_4).f0)) || (!(((rd_T45 l0_2 x7_4).f1) == ((rd_T45 l1_2 x7_4).f1)))) = false := by simpa using c45
                       clear c45
                       have H' := Aside0.mk H
                       clear H
                       have hnb49 := NB443_444.out
                       have hnc49 := NB444_443.out
                       have hcz50_0 : wr.cell? ⟨gb443, 0, none⟩ = some (.slice A0_0 l0_0.length c0_0) := (blk_cell BK443.out 0).trans rfl
                       have hcz50_1 : wr.cell? ⟨gb443, 1, none⟩ = some (.slice A0_1 l0_1.length c0_1) := (blk_cell BK443.out 1).trans rfl
                       have hcz50_2 : wr.cell? ⟨gb443, 2, none⟩ = some (.slice A0_2 l0_2.length c0_2) := (blk_cell BK443.out 2).trans rfl
                       have hfz50_0 := blk_frozen BK443.out 0
                       have hfz50_1 := blk_frozen BK443.out 1
                       have hfz50_2 := blk_frozen BK443.out 2
                       have p449 : 0 ≤ (x7_4 : Int) := of_decide_eq_true (by first | (with_reducible assumption) | assumption)
                       have q449 : x7_4 < (l0_2.length : Int) := of_decide_eq_true (by first | (with_reducible assumption) | assumption)
                       obtain ⟨ad449, e449, hx449_0, hx449_1⟩ := at_T45 HR0_2.out x7_4 p449 q449
                       cases e449
                       replace hx449_0 := (HB.out.cell (World.block_lt_of_cell? w _ hx449_0)).trans hx449_0
                       replace hx449_1 := (HB.out.cell (World.block_lt_of_cell? w _ hx449_1)).trans hx449_1
                       replace p449 := eq_true p449
                       replace q449 := eq_true q449
                       have hcz51_0 : wr.cell? ⟨gb444, 0, none⟩ = some (.slice A1_0 l1_0.length c1_0) := (blk_cell BK444.out 0).trans rfl
                       have hcz51_1 : wr.cell? ⟨gb444, 1, none⟩ = some (.slice A1_1 l1_1.length c1_1) := (blk_cell BK444.out 1).trans rfl
                       have hcz51_2 : wr.cell? ⟨gb444, 2, none⟩ = some (.slice A1_2 l1_2.length c1_2) := (blk_cell BK444.out 2).trans rfl
                       have hfz51_0 := blk_frozen BK444.out 0
                       have hfz51_1 := blk_frozen BK444.out 1
                       have hfz51_2 := blk_frozen BK444.out 2
                       have p450 : 0 ≤ (x7_4 : Int) := of_decide_eq_true (by first | (with_reducible assumption) | assumption)
                       have q450 : x7_4 < (l1_2.length : Int) := of_decide_eq_true (by first | (with_reducible assumption) | assumption)
                       obtain ⟨ad450, e450, hx450_0, hx450_1⟩ := at_T45 HR1_2.out x7_4 p450 q450
                       cases e450
                       replace hx450_0 := (HB.out.cell (World.block_lt_of_cell? w _ hx450_0)).trans hx450_0
                       replace hx450_1 := (HB.out.cell (World.block_lt_of_cell? w _ hx450_1)).trans hx450_1
                       replace p450 := eq_true p450
                       replace q450 := eq_true q450
                       go_wp2
                       repeat (go_quiet (fail); try go_wp2)
                       go_roundg k4
                       case measure => have := HJ2.out; have := HK2.out; have := HK3.out; have := HK4.out; omega
                       case rel => exact ⟨(wrap64 (x7_4 + 1)), (by first | rfl | (simp; done) | (simp [*]; done)), H', ⟨by have := HJ2.out; have := HK2.out; have := HK3.out; have := HK4.out; omega⟩, ⟨by (with_reducible repeat (first | refine blk_drewN ?_ _ | refine blk_drew ?_ | refine blk_alloc ?_ _)); exact BK443.out⟩, ⟨by (with_reducible repeat (first | refine blk_drewN ?_ _ | refine blk_drew ?_ | refine blk_alloc ?_ _)); exact BK444.out⟩, ⟨by repeat (first | (with_reducible first | exact HB.out | apply below_alloc | apply pw_below_drewN | apply below_drew1 | refine below_set ?_ GE443.out | refine below_set ?_ GE444.out) | exact HB.out)⟩⟩
                   · rw [if_neg c44] at H
                     exact absurd H (by simp)
                 · rw [if_neg c43] at H
                   exact absurd H (by simp)
               · rw [if_neg c42] at H
                 have c42b0 : decide (x7_4 < (l0_2.length : Int)) = false := decide_eq_false c42
                 clear c42
                 obtain rfl := Option.some.inj H
                 have hnb52 := NB443_444.out
                 have hnc52 := NB444_443.out
                 have hcz53_0 : wr.cell? ⟨gb443, 0, none⟩ = some (.slice A0_0 l0_0.length c0_0) := (blk_cell BK443.out 0).trans rfl
                 have hcz53_1 : wr.cell? ⟨gb443, 1, none⟩ = some (.slice A0_1 l0_1.length c0_1) := (blk_cell BK443.out 1).trans rfl
                 have hcz53_2 : wr.cell? ⟨gb443, 2, none⟩ = some (.slice A0_2 l0_2.length c0_2) := (blk_cell BK443.out 2).trans rfl
                 have hfz53_0 := blk_frozen BK443.out 0
                 have hfz53_1 := blk_frozen BK443.out 1
                 have hfz53_2 := blk_frozen BK443.out 2
                 go_wp2
                 repeat (go_quiet (fail); try go_wp2)
                 go_ret
                 exact ⟨by first | rfl | (simp [errW_none, errW_some] <;> rfl) | (simp [*, errW_none, errW_some] <;> rfl), by repeat (first | (with_reducible first | exact HB.out | apply below_alloc | apply pw_below_drewN | apply below_drew1 | refine below_set ?_ GE443.out | refine below_set ?_ GE444.out) | exact HB.out)⟩

end Go.Proofs.Ytianblmceohmnaa.PAll



namespace Go.Proofs.Ytianblmceohmnaa.PAll
open Go.RowKit Go.Proofs.YtianblmceohmnaaW.PrintWords Go.Proofs.YtianblmceohmnaaW.PrintLast Go.Proofs.YtianblmceohmnaaW.PrintMore
attribute [local go_sem] max2_int min2_int max_two min_two max_three min_three max_four min_four   -- for this text's walks alone
set_option linter.unusedVariables false
set_option linter.unusedSimpArgs false

attribute [local go_sem high] eqA31
/-! ### seneschalref17_Needed: function 16 -/
mutual
def seneschalref17_Needed.l0 : Nat → List (S31) → Int → Int → Option (Int)
 | 0, _, _, _ => none
 | k + 1, x0, x1, x5 => if x5 < (x0.length : Int) then (if x1 ≥ 1 then (seneschalref17_Needed.j1 k x0 x1 x5 (decide (x1 ≤ 1099511627776))) else (seneschalref17_Needed.j1 k x0 x1 x5 false)) else (seneschalref17_Needed.j1 k x0 x1 x5 false)
def seneschalref17_Needed.j1 : Nat → List (S31) → Int → Int → Bool → Option (Int)
 | 0, _, _, _, _ => none
 | k + 1, x0, x1, x5, x17 => if x17 = true then (if 0 ≤ x5 then (if x5 < (x0.length : Int) then ((seneschalref04_Good.f ((rd_T31 x0 x5).f0) ((rd_T31 x0 x5).f1.f0) ((rd_T31 x0 x5).f1.f1) ((rd_T31 x0 x5).f1.f2) ((rd_T31 x0 x5).f2) ((rd_T31 x0 x5).f3) ((rd_T31 x0 x5).f4) ((rd_T31 x0 x5).f5) ((rd_T31 x0 x5).f6.f0) ((rd_T31 x0 x5).f6.f1) ((rd_T31 x0 x5).f7.f0) ((rd_T31 x0 x5).f7.f1) ((rd_T31 x0 x5).f8)).bind fun t459 => (if t459 = true then ((seneschalref17_ended.f k x0 ((rd_T31 x0 x5).f1.f0) ((rd_T31 x0 x5).f1.f1) ((rd_T31 x0 x5).f1.f2)).bind fun t461 => (if t461 = true then (seneschalref17_Needed.l0 k x0 x1 (wrap64 (x5 + 1))) else (some (wrap64 (x1 + x5))))) else (seneschalref17_Needed.l0 k x0 x1 (wrap64 (x5 + 1))))) else (none)) else (none)) else (some 0)
end
def seneschalref17_Needed.f (k : Nat) (l0 : List (S31)) (a1 : Int) : Option (Int) := seneschalref17_Needed.l0 k l0 a1 0
theorem seneschalref17_Needed.mono_l : ∀ k, (∀ y0 y1 y2, LeO (seneschalref17_Needed.l0 k y0 y1 y2) (seneschalref17_Needed.l0 (k + 1) y0 y1 y2)) ∧ (∀ y0 y1 y2 y3, LeO (seneschalref17_Needed.j1 k y0 y1 y2 y3) (seneschalref17_Needed.j1 (k + 1) y0 y1 y2 y3))
 | 0 => ⟨fun _ _ _ r h => by simp [seneschalref17_Needed.l0] at h, fun _ _ _ _ r h => by simp [seneschalref17_Needed.j1] at h⟩
 | k + 1 => by
  obtain ⟨ih0, ih1⟩ := seneschalref17_Needed.mono_l k
  refine ⟨?_, ?_⟩
  · intro y0 y1 y2
    unfold seneschalref17_Needed.l0
    repeat' first
    | (with_reducible exact ih0 _ _ _)
    | (with_reducible exact ih1 _ _ _ _)
    | (with_reducible exact seneschalref17_ended.mono _ _ _ _ _)
    | (with_reducible exact LeO.refl _)
    | (with_reducible exact LeO.none _)
    | (with_reducible refine LeO.ite ?_ ?_)
    | (with_reducible refine LeO.bind ?_ (fun _ => ?_))
    | exact ih0 _ _ _
    | exact ih1 _ _ _ _
    | exact seneschalref17_ended.mono _ _ _ _ _
    | exact LeO.none _
    | refine LeO.ite ?_ ?_
    | refine LeO.bind ?_ (fun _ => ?_)
  · intro y0 y1 y2 y3
    unfold seneschalref17_Needed.j1
    repeat' first
    | (with_reducible exact ih0 _ _ _)
    | (with_reducible exact ih1 _ _ _ _)
    | (with_reducible exact seneschalref17_ended.mono _ _ _ _ _)
    | (with_reducible exact LeO.refl _)
    | (with_reducible exact LeO.none _)
    | (with_reducible refine LeO.ite ?_ ?_)
    | (with_reducible refine LeO.bind ?_ (fun _ => ?_))
    | exact ih0 _ _ _
    | exact ih1 _ _ _ _
    | exact seneschalref17_ended.mono _ _ _ _ _
    | exact LeO.none _
    | refine LeO.ite ?_ ?_
    | refine LeO.bind ?_ (fun _ => ?_)
theorem seneschalref17_Needed.mono : ∀ a0 a1 k, LeO (seneschalref17_Needed.f k a0 a1) (seneschalref17_Needed.f (k + 1) a0 a1) := by
 intro a0 a1 k
 obtain ⟨ih0, ih1⟩ := seneschalref17_Needed.mono_l k
 unfold seneschalref17_Needed.f
 repeat' first
  | (with_reducible exact ih0 _ _ _)
  | (with_reducible exact ih1 _ _ _ _)
  | (with_reducible exact seneschalref17_ended.mono _ _ _ _ _)
  | (with_reducible exact LeO.refl _)
  | (with_reducible exact LeO.none _)
  | (with_reducible refine LeO.ite ?_ ?_)
  | (with_reducible refine LeO.bind ?_ (fun _ => ?_))
  | exact ih0 _ _ _
  | exact ih1 _ _ _ _
  | exact seneschalref17_ended.mono _ _ _ _ _
  | exact LeO.none _
  | refine LeO.ite ?_ ?_
  | refine LeO.bind ?_ (fun _ => ?_)
set_option maxHeartbeats 8000000 in
set_option maxRecDepth 100000 in
theorem seneschalref17_Needed.calls (k : Nat) (A0 : Option Addr) (c0 : Nat) (l0 : List (S31)) (a1 : Int) (r : Int) (w : World) (hr0 : Kd.C k31 w A0 l0.length l0) (hc0 : l0.length ≤ c0) (h : seneschalref17_Needed.f k l0 a1 = some r) :
 Calls Try.prog 16 #[.slice A0 l0.length c0, .int .i64 a1] w fun e w' => e = .returned (.int .i64 r) ∧ Below w.heap.size w w' := by
 have hu31 := Try.underlying31
 have hu24 := Try.underlying24
 have HR0 := Aside0.mk hr0
 have HC0 := Aside0.mk hc0
 clear hr0 hc0
 have HB := Aside0.mk (Below.refl w.heap.size w)
 have H : (seneschalref17_Needed.l0 k l0 a1 0) = some r := h
 clear h
 have H' := Aside0.mk H
 clear H
 go_enter Try.func16, Try.ntmps16
 go_wp2
 go_loopg [5] k (fun kq v5 w' => ∃ (x5_1 : Int), v5 = .int .i64 x5_1 ∧ Aside0 (seneschalref17_Needed.l0 kq l0 a1 x5_1 = some r) ∧ Aside0 (kq ≤ k) ∧ Aside0 (Below w.heap.size w w'))
 case atStart => exact ⟨(0), (by first | rfl | (simp; done) | (simp [*]; done)), H', ⟨Nat.le_refl _⟩, ⟨by repeat (first | (with_reducible first | exact HB.out | apply below_alloc | apply pw_below_drewN | apply below_drew1) | exact HB.out)⟩⟩
 case round =>
  clear H'
  try clear c1
  try clear p2
  obtain ⟨x5_1, rfl, HA, HK1, HB⟩ := hrel
  cases gk with
  | zero => exact absurd HA.out (by simp [seneschalref17_Needed.l0])
  | succ k1 =>
   have H := HA.out
   clear HA
   simp only [seneschalref17_Needed.l0] at H
   have HC3 := Aside0.mk H
   clear H
   go_upto_region 2 with (fail)
   go_cut [17] (fun v17 wc => ∃ (kq : Nat) (x17_2 : Bool), v17 = .bool x17_2 ∧ Aside0 (seneschalref17_Needed.j1 kq l0 a1 x5_1 x17_2 = some r) ∧ Aside0 (kq ≤ k1) ∧ Aside0 (Below w.heap.size w wc))
   case first =>
    have H := HC3.out
    clear HC3
    by_cases c4 : x5_1 < (l0.length : Int)
    · rw [if_pos c4] at H
      have c4b0 : decide (x5_1 < (l0.length : Int)) = true := decide_eq_true c4
      clear c4
      (first | rw [c4b0] | (simp only [i64_w, i32_w]; rw [c4b0]) | skip)
      by_cases c5 : a1 ≥ 1
      · rw [if_pos c5] at H
        have c5b0 : decide (1 ≤ a1) = true := decide_eq_true c5
        clear c5
        have H' := Aside0.mk H
        clear H
        go_wp2
        go_meet
        case rel => exact ⟨_, (decide (a1 ≤ 1099511627776)), (by first | rfl | (simp; done) | (simp [*]; done)), H', ⟨by have := HK1.out; first | omega | exact Nat.le_refl _⟩, ⟨by repeat (first | (with_reducible first | exact HB.out | apply below_alloc | apply pw_below_drewN | apply below_drew1) | exact HB.out)⟩⟩
      · rw [if_neg c5] at H
        have c5b0 : decide (1 ≤ a1) = false := decide_eq_false c5
        clear c5
        have H' := Aside0.mk H
        clear H
        go_wp2
        go_meet
        case rel => exact ⟨_, (false), (by first | rfl | (simp; done) | (simp [*]; done)), H', ⟨by have := HK1.out; first | omega | exact Nat.le_refl _⟩, ⟨by repeat (first | (with_reducible first | exact HB.out | apply below_alloc | apply pw_below_drewN | apply below_drew1) | exact HB.out)⟩⟩
    · rw [if_neg c4] at H
      have c4b0 : decide (x5_1 < (l0.length : Int)) = false := decide_eq_false c4
      clear c4
      (first | rw [c4b0] | (simp only [i64_w, i32_w]; rw [c4b0]) | skip)
      have H' := Aside0.mk H
      clear H
      go_wp2
      go_meet
      case rel => exact ⟨_, (false), (by first | rfl | (simp; done) | (simp [*]; done)), H', ⟨by have := HK1.out; first | omega | exact Nat.le_refl _⟩, ⟨by repeat (first | (with_reducible first | exact HB.out | apply below_alloc | apply pw_below_drewN | apply below_drew1) | exact HB.out)⟩⟩
   case rest =>
    clear HC3
    try clear c1
    try clear p2
    try clear c4
    try clear c4b0
    try clear c5
    try clear c5b0
    try clear p2
    obtain ⟨kq, x17_2, rfl, HA, HJ2, HB⟩ := hcut
    cases kq with
    | zero => exact absurd HA.out (by simp [seneschalref17_Needed.j1])
    | succ kj2 =>
     have H := HA.out
     clear HA
     simp only [seneschalref17_Needed.j1] at H
     by_cases c6 : x17_2 = true
     · subst c6
       have H1 : (if 0 ≤ x5_1 then (if x5_1 < (l0.length : Int) then ((seneschalref04_Good.f ((rd_T31 l0 x5_1).f0) ((rd_T31 l0 x5_1).f1.f0) ((rd_T31 l0 x5_1).f1.f1) ((rd_T31 l0 x5_1).f1.f2) ((rd_T31 l0 x5_1).f2) ((rd_T31 l0 x5_1).f3) ((rd_T31 l0 x5_1).f4) ((rd_T31 l0 x5_1).f5) ((rd_T31 l0 x5_1).f6.f0) ((rd_T31 l0 x5_1).f6.f1) ((rd_T31 l0 x5_1).f7.f0) ((rd_T31 l0 x5_1).f7.f1) ((rd_T31 l0 x5_1).f8)).bind fun t459 => (if t459 = true then ((seneschalref17_ended.f kj2 l0 ((rd_T31 l0 x5_1).f1.f0) ((rd_T31 l0 x5_1).f1.f1) ((rd_T31 l0 x5_1).f1.f2)).bind fun t461 => (if t461 = true then (seneschalref17_Needed.l0 kj2 l0 a1 (wrap64 (x5_1 + 1))) else (some (wrap64 (a1 + x5_1))))) else (seneschalref17_Needed.l0 kj2 l0 a1 (wrap64 (x5_1 + 1))))) else (none)) else (none)) = some r := by rw [if_pos rfl] at H; exact H
       clear H
       have H := H1
       clear H1
       by_cases c7 : 0 ≤ x5_1
       · rw [if_pos c7] at H
         have c7b0 : decide (0 ≤ x5_1) = true := decide_eq_true c7
         clear c7
         by_cases c8 : x5_1 < (l0.length : Int)
         · rw [if_pos c8] at H
           have c8b0 : decide (x5_1 < (l0.length : Int)) = true := decide_eq_true c8
           clear c8
           replace H := Option.bind_eq_some_iff.mp H
           obtain ⟨t459, A90, H⟩ := H
           replace H : (if t459 = true then ((seneschalref17_ended.f kj2 l0 ((rd_T31 l0 x5_1).f1.f0) ((rd_T31 l0 x5_1).f1.f1) ((rd_T31 l0 x5_1).f1.f2)).bind fun t461 => (if t461 = true then (seneschalref17_Needed.l0 kj2 l0 a1 (wrap64 (x5_1 + 1))) else (some (wrap64 (a1 + x5_1))))) else (seneschalref17_Needed.l0 kj2 l0 a1 (wrap64 (x5_1 + 1)))) = some r := H
           have A9 := Aside0.mk A90
           clear A90
           by_cases c10 : t459 = true
           · subst c10
             have H1 : ((seneschalref17_ended.f kj2 l0 ((rd_T31 l0 x5_1).f1.f0) ((rd_T31 l0 x5_1).f1.f1) ((rd_T31 l0 x5_1).f1.f2)).bind fun t461 => (if t461 = true then (seneschalref17_Needed.l0 kj2 l0 a1 (wrap64 (x5_1 + 1))) else (some (wrap64 (a1 + x5_1))))) = some r := by rw [if_pos rfl] at H; exact H
             clear H
             have H := H1
             clear H1
             replace H := Option.bind_eq_some_iff.mp H
             obtain ⟨t461, A110, H⟩ := H
             replace H : (if t461 = true then (seneschalref17_Needed.l0 kj2 l0 a1 (wrap64 (x5_1 + 1))) else (some (wrap64 (a1 + x5_1)))) = some r := H
             have A11 := Aside0.mk A110
             clear A110
             by_cases c12 : t461 = true
             · subst c12
               have H1 : (seneschalref17_Needed.l0 kj2 l0 a1 (wrap64 (x5_1 + 1))) = some r := by rw [if_pos rfl] at H; exact H
               clear H
               have H := H1
               clear H1
               have H' := Aside0.mk H
               clear H
               have p458 : 0 ≤ (x5_1 : Int) := of_decide_eq_true (by first | (with_reducible assumption) | assumption)
               have q458 : x5_1 < (l0.length : Int) := of_decide_eq_true (by first | (with_reducible assumption) | assumption)
               obtain ⟨ad458, e458, hx458_0, hx458_1, hx458_2, hx458_3, hx458_4, hx458_5, hx458_6, hx458_7, hx458_8, hx458_9, hx458_10, hx458_11, hx458_12⟩ := at_T31 HR0.out x5_1 p458 q458
               cases e458
               replace hx458_0 := (HB.out.cell (World.block_lt_of_cell? w _ hx458_0)).trans hx458_0
               replace hx458_1 := (HB.out.cell (World.block_lt_of_cell? w _ hx458_1)).trans hx458_1
               replace hx458_2 := (HB.out.cell (World.block_lt_of_cell? w _ hx458_2)).trans hx458_2
               replace hx458_3 := (HB.out.cell (World.block_lt_of_cell? w _ hx458_3)).trans hx458_3
               replace hx458_4 := (HB.out.cell (World.block_lt_of_cell? w _ hx458_4)).trans hx458_4
               replace hx458_5 := (HB.out.cell (World.block_lt_of_cell? w _ hx458_5)).trans hx458_5
               replace hx458_6 := (HB.out.cell (World.block_lt_of_cell? w _ hx458_6)).trans hx458_6
               replace hx458_7 := (HB.out.cell (World.block_lt_of_cell? w _ hx458_7)).trans hx458_7
               replace hx458_8 := (HB.out.cell (World.block_lt_of_cell? w _ hx458_8)).trans hx458_8
               replace hx458_9 := (HB.out.cell (World.block_lt_of_cell? w _ hx458_9)).trans hx458_9
               replace hx458_10 := (HB.out.cell (World.block_lt_of_cell? w _ hx458_10)).trans hx458_10
               replace hx458_11 := (HB.out.cell (World.block_lt_of_cell? w _ hx458_11)).trans hx458_11
               replace hx458_12 := (HB.out.cell (World.block_lt_of_cell? w _ hx458_12)).trans hx458_12
               replace p458 := eq_true p458
               replace q458 := eq_true q458
               go_wp2_with (first | ((with_reducible refine gate_callee (f := 20) rfl ?_); refine goesL_ (some 24) rfl rfl Try.func20 (by kernel_rfl) rfl #[.agg #[.int .i64 ((rd_T31 l0 x5_1).f0), .int .i64 ((rd_T31 l0 x5_1).f1.f0), .int .i64 ((rd_T31 l0 x5_1).f1.f1), .int .i64 ((rd_T31 l0 x5_1).f1.f2), .int .i64 ((rd_T31 l0 x5_1).f2), .int .i64 ((rd_T31 l0 x5_1).f3), .int .i64 ((rd_T31 l0 x5_1).f4), .int .i64 ((rd_T31 l0 x5_1).f5), .bool ((rd_T31 l0 x5_1).f6.f0), .string ((rd_T31 l0 x5_1).f6.f1), .bool ((rd_T31 l0 x5_1).f7.f0), .string ((rd_T31 l0 x5_1).f7.f1), .int .i64 ((rd_T31 l0 x5_1).f8)]] rfl (by (try simp only [List.map_toArray, List.map_cons, List.map_nil]); first | done | rfl | (simp only [List.length_drop, List.length_take]; rfl)) ?_; (with_reducible refine (seneschalref04_Good.calls ((rd_T31 l0 x5_1).f0) ((rd_T31 l0 x5_1).f1.f0) ((rd_T31 l0 x5_1).f1.f1) ((rd_T31 l0 x5_1).f1.f2) ((rd_T31 l0 x5_1).f2) ((rd_T31 l0 x5_1).f3) ((rd_T31 l0 x5_1).f4) ((rd_T31 l0 x5_1).f5) ((rd_T31 l0 x5_1).f6.f0) ((rd_T31 l0 x5_1).f6.f1) ((rd_T31 l0 x5_1).f7.f0) ((rd_T31 l0 x5_1).f7.f1) ((rd_T31 l0 x5_1).f8) true _ A9.out).mono ?_); rintro e w13 ⟨rfl, hb⟩; refine ⟨_, rfl, ?_⟩; have n0_ := Aside0.mk (below_step (by repeat (first | (with_reducible first | exact HB.out | apply below_alloc | apply pw_below_drewN | apply below_drew1) | exact HB.out)) hb); clear HB; have HB := n0_; clear n0_; (try clear hb); (try clear hb2); (try clear hk); (try clear hi); have p460 : 0 ≤ (x5_1 : Int) := of_decide_eq_true (by first | (with_reducible assumption) | assumption); have q460 : x5_1 < (l0.length : Int) := of_decide_eq_true (by first | (with_reducible assumption) | assumption); obtain ⟨ad460, e460, hx460_0, hx460_1, hx460_2, hx460_3, hx460_4, hx460_5, hx460_6, hx460_7, hx460_8, hx460_9, hx460_10, hx460_11, hx460_12⟩ := at_T31 HR0.out x5_1 p460 q460; obtain rfl : ad458 = ad460 := (by injection e460); replace hx460_0 := (HB.out.cell (World.block_lt_of_cell? w _ hx460_0)).trans hx460_0; replace hx460_1 := (HB.out.cell (World.block_lt_of_cell? w _ hx460_1)).trans hx460_1; replace hx460_2 := (HB.out.cell (World.block_lt_of_cell? w _ hx460_2)).trans hx460_2; replace hx460_3 := (HB.out.cell (World.block_lt_of_cell? w _ hx460_3)).trans hx460_3; replace hx460_4 := (HB.out.cell (World.block_lt_of_cell? w _ hx460_4)).trans hx460_4; replace hx460_5 := (HB.out.cell (World.block_lt_of_cell? w _ hx460_5)).trans hx460_5; replace hx460_6 := (HB.out.cell (World.block_lt_of_cell? w _ hx460_6)).trans hx460_6; replace hx460_7 := (HB.out.cell (World.block_lt_of_cell? w _ hx460_7)).trans hx460_7; replace hx460_8 := (HB.out.cell (World.block_lt_of_cell? w _ hx460_8)).trans hx460_8; replace hx460_9 := (HB.out.cell (World.block_lt_of_cell? w _ hx460_9)).trans hx460_9; replace hx460_10 := (HB.out.cell (World.block_lt_of_cell? w _ hx460_10)).trans hx460_10; replace hx460_11 := (HB.out.cell (World.block_lt_of_cell? w _ hx460_11)).trans hx460_11; replace hx460_12 := (HB.out.cell (World.block_lt_of_cell? w _ hx460_12)).trans hx460_12; replace p460 := eq_true p460; replace q460 := eq_true q460) | (go_at_call 30; (with_reducible refine (seneschalref17_ended.calls kj2 _ _ l0 ((rd_T31 l0 x5_1).f1.f0) ((rd_T31 l0 x5_1).f1.f1) ((rd_T31 l0 x5_1).f1.f2) true _ ?side1 ?side2 A11.out).mono ?_); (case side1 => repeat (first | exact (Kd.C_below HR0.out HB.out) | (with_reducible refine Kd.C_alloc ?_ _) | (with_reducible refine Kd.C_drewN ?_ _) | (with_reducible refine Kd.C_drew ?_))); (case side2 => exact HC0.out); rintro e w14 ⟨rfl, hb⟩; have n0_ := Aside0.mk (below_step (by repeat (first | (with_reducible first | exact HB.out | apply below_alloc | apply pw_below_drewN | apply below_drew1) | exact HB.out)) hb); clear HB; have HB := n0_; clear n0_; (try clear hb); (try clear hb2); (try clear hk); (try clear hi)))
               go_roundg kj2
               case measure => have := HK1.out; have := HJ2.out; omega
               case rel => exact ⟨(wrap64 (x5_1 + 1)), (by first | rfl | (simp; done) | (simp [*]; done)), H', ⟨by have := HK1.out; have := HJ2.out; omega⟩, ⟨by repeat (first | (with_reducible first | exact HB.out | apply below_alloc | apply pw_below_drewN | apply below_drew1) | exact HB.out)⟩⟩
             · replace c12 := Bool.eq_false_iff.mpr c12
               subst c12
               have H1 : (some (wrap64 (a1 + x5_1))) = some r := by rw [if_neg (show ¬ (false = true) by decide)] at H; exact H
               clear H
               have H := H1
               clear H1
               obtain rfl := Option.some.inj H
               have p458 : 0 ≤ (x5_1 : Int) := of_decide_eq_true (by first | (with_reducible assumption) | assumption)
               have q458 : x5_1 < (l0.length : Int) := of_decide_eq_true (by first | (with_reducible assumption) | assumption)
               obtain ⟨ad458, e458, hx458_0, hx458_1, hx458_2, hx458_3, hx458_4, hx458_5, hx458_6, hx458_7, hx458_8, hx458_9, hx458_10, hx458_11, hx458_12⟩ := at_T31 HR0.out x5_1 p458 q458
               cases e458
               replace hx458_0 := (HB.out.cell (World.block_lt_of_cell? w _ hx458_0)).trans hx458_0
               replace hx458_1 := (HB.out.cell (World.block_lt_of_cell? w _ hx458_1)).trans hx458_1
               replace hx458_2 := (HB.out.cell (World.block_lt_of_cell? w _ hx458_2)).trans hx458_2
               replace hx458_3 := (HB.out.cell (World.block_lt_of_cell? w _ hx458_3)).trans hx458_3
               replace hx458_4 := (HB.out.cell (World.block_lt_of_cell? w _ hx458_4)).trans hx458_4
               replace hx458_5 := (HB.out.cell (World.block_lt_of_cell? w _ hx458_5)).trans hx458_5
               replace hx458_6 := (HB.out.cell (World.block_lt_of_cell? w _ hx458_6)).trans hx458_6
               replace hx458_7 := (HB.out.cell (World.block_lt_of_cell? w _ hx458_7)).trans hx458_7
               replace hx458_8 := (HB.out.cell (World.block_lt_of_cell? w _ hx458_8)).trans hx458_8
               replace hx458_9 := (HB.out.cell (World.block_lt_of_cell? w _ hx458_9)).trans hx458_9
               replace hx458_10 := (HB.out.cell (World.block_lt_of_cell? w _ hx458_10)).trans hx458_10
               replace hx458_11 := (HB.out.cell (World.block_lt_of_cell? w _ hx458_11)).trans hx458_11
               replace hx458_12 := (HB.out.cell (World.block_lt_of_cell? w _ hx458_12)).trans hx458_12
               replace p458 := eq_true p458
               replace q458 := eq_true q458
               go_wp2_with (first | ((with_reducible refine gate_callee (f := 20) rfl ?_); refine goesL_ (some 24) rfl rfl Try.func20 (by kernel_rfl) rfl #[.agg #[.int .i64 ((rd_T31 l0 x5_1).f0), .int .i64 ((rd_T31 l0 x5_1).f1.f0), .int .i64 ((rd_T31 l0 x5_1).f1.f1), .int .i64 ((rd_T31 l0 x5_1).f1.f2), .int .i64 ((rd_T31 l0 x5_1).f2), .int .i64 ((rd_T31 l0 x5_1).f3), .int .i64 ((rd_T31 l0 x5_1).f4), .int .i64 ((rd_T31 l0 x5_1).f5), .bool ((rd_T31 l0 x5_1).f6.f0), .string ((rd_T31 l0 x5_1).f6.f1), .bool ((rd_T31 l0 x5_1).f7.f0), .string ((rd_T31 l0 x5_1).f7.f1), .int .i64 ((rd_T31 l0 x5_1).f8)]] rfl (by (try simp only [List.map_toArray, List.map_cons, List.map_nil]); first | done | rfl | (simp only [List.length_drop, List.length_take]; rfl)) ?_; (with_reducible refine (seneschalref04_Good.calls ((rd_T31 l0 x5_1).f0) ((rd_T31 l0 x5_1).f1.f0) ((rd_T31 l0 x5_1).f1.f1) ((rd_T31 l0 x5_1).f1.f2) ((rd_T31 l0 x5_1).f2) ((rd_T31 l0 x5_1).f3) ((rd_T31 l0 x5_1).f4) ((rd_T31 l0 x5_1).f5) ((rd_T31 l0 x5_1).f6.f0) ((rd_T31 l0 x5_1).f6.f1) ((rd_T31 l0 x5_1).f7.f0) ((rd_T31 l0 x5_1).f7.f1) ((rd_T31 l0 x5_1).f8) true _ A9.out).mono ?_); rintro e w15 ⟨rfl, hb⟩; refine ⟨_, rfl, ?_⟩; have n0_ := Aside0.mk (below_step (by repeat (first | (with_reducible first | exact HB.out | apply below_alloc | apply pw_below_drewN | apply below_drew1) | exact HB.out)) hb); clear HB; have HB := n0_; clear n0_; (try clear hb); (try clear hb2); (try clear hk); (try clear hi); have p460 : 0 ≤ (x5_1 : Int) := of_decide_eq_true (by first | (with_reducible assumption) | assumption); have q460 : x5_1 < (l0.length : Int) := of_decide_eq_true (by first | (with_reducible assumption) | assumption); obtain ⟨ad460, e460, hx460_0, hx460_1, hx460_2, hx460_3, hx460_4, hx460_5, hx460_6, hx460_7, hx460_8, hx460_9, hx460_10, hx460_11, hx460_12⟩ := at_T31 HR0.out x5_1 p460 q460; obtain rfl : ad458 = ad460 := (by injection e460); replace hx460_0 := (HB.out.cell (World.block_lt_of_cell? w _ hx460_0)).trans hx460_0; replace hx460_1 := (HB.out.cell (World.block_lt_of_cell? w _ hx460_1)).trans hx460_1; replace hx460_2 := (HB.out.cell (World.block_lt_of_cell? w _ hx460_2)).trans hx460_2; replace hx460_3 := (HB.out.cell (World.block_lt_of_cell? w _ hx460_3)).trans hx460_3; replace hx460_4 := (HB.out.cell (World.block_lt_of_cell? w _ hx460_4)).trans hx460_4; replace hx460_5 := (HB.out.cell (World.block_lt_of_cell? w _ hx460_5)).trans hx460_5; replace hx460_6 := (HB.out.cell (World.block_lt_of_cell? w _ hx460_6)).trans hx460_6; replace hx460_7 := (HB.out.cell (World.block_lt_of_cell? w _ hx460_7)).trans hx460_7; replace hx460_8 := (HB.out.cell (World.block_lt_of_cell? w _ hx460_8)).trans hx460_8; replace hx460_9 := (HB.out.cell (World.block_lt_of_cell? w _ hx460_9)).trans hx460_9; replace hx460_10 := (HB.out.cell (World.block_lt_of_cell? w _ hx460_10)).trans hx460_10; replace hx460_11 := (HB.out.cell (World.block_lt_of_cell? w _ hx460_11)).trans hx460_11; replace hx460_12 := (HB.out.cell (World.block_lt_of_cell? w _ hx460_12)).trans hx460_12; replace p460 := eq_true p460; replace q460 := eq_true q460) | (go_at_call 30; (with_reducible refine (seneschalref17_ended.calls kj2 _ _ l0 ((rd_T31 l0 x5_1).f1.f0) ((rd_T31 l0 x5_1).f1.f1) ((rd_T31 l0 x5_1).f1.f2) false _ ?side1 ?side2 A11.out).mono ?_); (case side1 => repeat (first | exact (Kd.C_below HR0.out HB.out) | (with_reducible refine Kd.C_alloc ?_ _) | (with_reducible refine Kd.C_drewN ?_ _) | (with_reducible refine Kd.C_drew ?_))); (case side2 => exact HC0.out); rintro e w16 ⟨rfl, hb⟩; have n0_ := Aside0.mk (below_step (by repeat (first | (with_reducible first | exact HB.out | apply below_alloc | apply pw_below_drewN | apply below_drew1) | exact HB.out)) hb); clear HB; have HB := n0_; clear n0_; (try clear hb); (try clear hb2); (try clear hk); (try clear hi)))
               go_ret
               exact ⟨by first | rfl | (simp [errW_none, errW_some] <;> rfl) | (simp [*, errW_none, errW_some] <;> rfl), by repeat (first | (with_reducible first | exact HB.out | apply below_alloc | apply pw_below_drewN | apply below_drew1) | exact HB.out)⟩
           · replace c10 := Bool.eq_false_iff.mpr c10
             subst c10
             have H1 : (seneschalref17_Needed.l0 kj2 l0 a1 (wrap64 (x5_1 + 1))) = some r := by rw [if_neg (show ¬ (false = true) by decide)] at H; exact H
             clear H
             have H := H1
             clear H1
             have H' := Aside0.mk H
             clear H
             have p458 : 0 ≤ (x5_1 : Int) := of_decide_eq_true (by first | (with_reducible assumption) | assumption)
             have q458 : x5_1 < (l0.length : Int) := of_decide_eq_true (by first | (with_reducible assumption) | assumption)
             obtain ⟨ad458, e458, hx458_0, hx458_1, hx458_2, hx458_3, hx458_4, hx458_5, hx458_6, hx458_7, hx458_8, hx458_9, hx458_10, hx458_11, hx458_12⟩ := at_T31 HR0.out x5_1 p458 q458
             cases e458
             replace hx458_0 := (HB.out.cell (World.block_lt_of_cell? w _ hx458_0)).trans hx458_0
             replace hx458_1 := (HB.out.cell (World.block_lt_of_cell? w _ hx458_1)).trans hx458_1
             replace hx458_2 := (HB.out.cell (World.block_lt_of_cell? w _ hx458_2)).trans hx458_2
             replace hx458_3 := (HB.out.cell (World.block_lt_of_cell? w _ hx458_3)).trans hx458_3
             replace hx458_4 := (HB.out.cell (World.block_lt_of_cell? w _ hx458_4)).trans hx458_4
             replace hx458_5 := (HB.out.cell (World.block_lt_of_cell? w _ hx458_5)).trans hx458_5
             replace hx458_6 := (HB.out.cell (World.block_lt_of_cell? w _ hx458_6)).trans hx458_6
             replace hx458_7 := (HB.out.cell (World.block_lt_of_cell? w _ hx458_7)).trans hx458_7
             replace hx458_8 := (HB.out.cell (World.block_lt_of_cell? w _ hx458_8)).trans hx458_8
             replace hx458_9 := (HB.out.cell (World.block_lt_of_cell? w _ hx458_9)).trans hx458_9
             replace hx458_10 := (HB.out.cell (World.block_lt_of_cell? w _ hx458_10)).trans hx458_10
             replace hx458_11 := (HB.out.cell (World.block_lt_of_cell? w _ hx458_11)).trans hx458_11
             replace hx458_12 := (HB.out.cell (World.block_lt_of_cell? w _ hx458_12)).trans hx458_12
             replace p458 := eq_true p458
             replace q458 := eq_true q458
             go_wp2_with (first | ((with_reducible refine gate_callee (f := 20) rfl ?_); refine goesL_ (some 24) rfl rfl Try.func20 (by kernel_rfl) rfl #[.agg #[.int .i64 ((rd_T31 l0 x5_1).f0), .int .i64 ((rd_T31 l0 x5_1).f1.f0), .int .i64 ((rd_T31 l0 x5_1).f1.f1), .int .i64 ((rd_T31 l0 x5_1).f1.f2), .int .i64 ((rd_T31 l0 x5_1).f2), .int .i64 ((rd_T31 l0 x5_1).f3), .int .i64 ((rd_T31 l0 x5_1).f4), .int .i64 ((rd_T31 l0 x5_1).f5), .bool ((rd_T31 l0 x5_1).f6.f0), .string ((rd_T31 l0 x5_1).f6.f1), .bool ((rd_T31 l0 x5_1).f7.f0), .string ((rd_T31 l0 x5_1).f7.f1), .int .i64 ((rd_T31 l0 x5_1).f8)]] rfl (by (try simp only [List.map_toArray, List.map_cons, List.map_nil]); first | done | rfl | (simp only [List.length_drop, List.length_take]; rfl)) ?_; (with_reducible refine (seneschalref04_Good.calls ((rd_T31 l0 x5_1).f0) ((rd_T31 l0 x5_1).f1.f0) ((rd_T31 l0 x5_1).f1.f1) ((rd_T31 l0 x5_1).f1.f2) ((rd_T31 l0 x5_1).f2) ((rd_T31 l0 x5_1).f3) ((rd_T31 l0 x5_1).f4) ((rd_T31 l0 x5_1).f5) ((rd_T31 l0 x5_1).f6.f0) ((rd_T31 l0 x5_1).f6.f1) ((rd_T31 l0 x5_1).f7.f0) ((rd_T31 l0 x5_1).f7.f1) ((rd_T31 l0 x5_1).f8) false _ A9.out).mono ?_); rintro e w17 ⟨rfl, hb⟩; refine ⟨_, rfl, ?_⟩; have n0_ := Aside0.mk (below_step (by repeat (first | (with_reducible first | exact HB.out | apply below_alloc | apply pw_below_drewN | apply below_drew1) | exact HB.out)) hb); clear HB; have HB := n0_; clear n0_; (try clear hb); (try clear hb2); (try clear hk); (try clear hi)))
             go_roundg kj2
             case measure => have := HK1.out; have := HJ2.out; omega
             case rel => exact ⟨(wrap64 (x5_1 + 1)), (by first | rfl | (simp; done) | (simp [*]; done)), H', ⟨by have := HK1.out; have := HJ2.out; omega⟩, ⟨by repeat (first | (with_reducible first | exact HB.out | apply below_alloc | apply pw_below_drewN | apply below_drew1) | exact HB.out)⟩⟩
         · rw [if_neg c8] at H
           exact absurd H (by simp)
       · rw [if_neg c7] at H
         exact absurd H (by simp)
     · replace c6 := Bool.eq_false_iff.mpr c6
       subst c6
       have H1 : (some 0) = some r := by rw [if_neg (show ¬ (false = true) by decide)] at H; exact H
       clear H
       have H := H1
       clear H1
       obtain rfl := Option.some.inj H
       go_wp2
       go_ret
       exact ⟨by first | rfl | (simp [errW_none, errW_some] <;> rfl) | (simp [*, errW_none, errW_some] <;> rfl), by repeat (first | (with_reducible first | exact HB.out | apply below_alloc | apply pw_below_drewN | apply below_drew1) | exact HB.out)⟩

/-! ### seneschallaw17_PastReads: function 3 -/
def seneschallaw17_PastReads.l0 : Nat → List (S31) → Int → List (S31) → List (S31) → Int → Option (Bool)
 | 0, _, _, _, _, _ => none
 | k + 1, x0, x1, x7, x8, x9 => if x9 < (x7.length : Int) then (if 0 ≤ x9 then (if x9 < (x8.length : Int) then (if (!(((rd_T31 x7 x9).f0) == ((rd_T31 x8 x9).f0)) || ((!(((rd_T31 x7 x9).f1.f0) == ((rd_T31 x8 x9).f1.f0)) || (!(((rd_T31 x7 x9).f1.f1) == ((rd_T31 x8 x9).f1.f1)) || (!(((rd_T31 x7 x9).f1.f2) == ((rd_T31 x8 x9).f1.f2))))) || (!(((rd_T31 x7 x9).f2) == ((rd_T31 x8 x9).f2)) || (!(((rd_T31 x7 x9).f3) == ((rd_T31 x8 x9).f3)) || (!(((rd_T31 x7 x9).f4) == ((rd_T31 x8 x9).f4)) || (!(((rd_T31 x7 x9).f5) == ((rd_T31 x8 x9).f5)) || ((!(((rd_T31 x7 x9).f6.f0) == ((rd_T31 x8 x9).f6.f0)) || (!((((rd_T31 x7 x9).f6.f1).toList) == (((rd_T31 x8 x9).f6.f1).toList)))) || ((!(((rd_T31 x7 x9).f7.f0) == ((rd_T31 x8 x9).f7.f0)) || (!((((rd_T31 x7 x9).f7.f1).toList) == (((rd_T31 x8 x9).f7.f1).toList)))) || (!(((rd_T31 x7 x9).f8) == ((rd_T31 x8 x9).f8))))))))))) = true then (some false) else (seneschallaw17_PastReads.l0 k x0 x1 x7 x8 (wrap64 (x9 + 1)))) else (none)) else (none)) else ((past_Read.f x0 x1).bind fun bt473 => ((seneschalref17_Read.f x0 x1).bind fun bt482 => ((seneschalref17_Same.f k bt473.1 bt473.2.1 bt473.2.2 bt482.1 bt482.2.1 bt482.2.2).bind fun t491 => (if t491 = true then ((past_Needed.f x0 x1).bind fun t492 => ((seneschalref17_Needed.f k x0 x1).bind fun t493 => (some (t492 == t493)))) else (some false)))))
def seneschallaw17_PastReads.f (k : Nat) (l0 : List (S31)) (a1 : Int) (a2_0 : Int) (a2_1 : Int) (a2_2 : Int) : Option (Bool) := (seneschallaw17_awake.f).bind fun t463 => (if t463 = true then ((seneschallaw17_great.f k l0).bind fun t464 => (if t464 = true then (some true) else ((past_Of.f k l0 a2_0 a2_1 a2_2).bind fun t465 => ((seneschalref17_Of.f k l0 a2_0 a2_1 a2_2).bind fun t468 => (if (t465.length : Int) = (t468.length : Int) then (seneschallaw17_PastReads.l0 k l0 a1 t465 t468 0) else (some false)))))) else (some false))
theorem seneschallaw17_PastReads.mono_l : ∀ k, (∀ y0 y1 y2 y3 y4, LeO (seneschallaw17_PastReads.l0 k y0 y1 y2 y3 y4) (seneschallaw17_PastReads.l0 (k + 1) y0 y1 y2 y3 y4))
 | 0 => fun _ _ _ _ _ r h => by simp [seneschallaw17_PastReads.l0] at h
 | k + 1 => by
  have ih0 := seneschallaw17_PastReads.mono_l k
  · intro y0 y1 y2 y3 y4
    unfold seneschallaw17_PastReads.l0
    repeat' first
    | (with_reducible exact ih0 _ _ _ _ _)
    | (with_reducible exact past_Of.mono _ _ _ _ _)
    | (with_reducible exact seneschallaw17_great.mono _ _)
    | (with_reducible exact seneschalref17_Needed.mono _ _ _)
    | (with_reducible exact seneschalref17_Of.mono _ _ _ _ _)
    | (with_reducible exact seneschalref17_Same.mono _ _ _ _ _ _ _)
    | (with_reducible exact LeO.refl _)
    | (with_reducible exact LeO.none _)
    | (with_reducible refine LeO.ite ?_ ?_)
    | (with_reducible refine LeO.bind ?_ (fun _ => ?_))
    | exact ih0 _ _ _ _ _
    | exact past_Of.mono _ _ _ _ _
    | exact seneschallaw17_great.mono _ _
    | exact seneschalref17_Needed.mono _ _ _
    | exact seneschalref17_Of.mono _ _ _ _ _
    | exact seneschalref17_Same.mono _ _ _ _ _ _ _
    | exact LeO.none _
    | refine LeO.ite ?_ ?_
    | refine LeO.bind ?_ (fun _ => ?_)
theorem seneschallaw17_PastReads.mono : ∀ a0 a1 a2 a3 a4 k, LeO (seneschallaw17_PastReads.f k a0 a1 a2 a3 a4) (seneschallaw17_PastReads.f (k + 1) a0 a1 a2 a3 a4) := by
 intro a0 a1 a2 a3 a4 k
 have ih0 := seneschallaw17_PastReads.mono_l k
 unfold seneschallaw17_PastReads.f
 repeat' first
  | (with_reducible exact ih0 _ _ _ _ _)
  | (with_reducible exact past_Of.mono _ _ _ _ _)
  | (with_reducible exact seneschallaw17_great.mono _ _)
  | (with_reducible exact seneschalref17_Needed.mono _ _ _)
  | (with_reducible exact seneschalref17_Of.mono _ _ _ _ _)
  | (with_reducible exact seneschalref17_Same.mono _ _ _ _ _ _ _)
  | (with_reducible exact LeO.refl _)
  | (with_reducible exact LeO.none _)
  | (with_reducible refine LeO.ite ?_ ?_)
  | (with_reducible refine LeO.bind ?_ (fun _ => ?_))
  | exact ih0 _ _ _ _ _
  | exact past_Of.mono _ _ _ _ _
  | exact seneschallaw17_great.mono _ _
  | exact seneschalref17_Needed.mono _ _ _
  | exact seneschalref17_Of.mono _ _ _ _ _
  | exact seneschalref17_Same.mono _ _ _ _ _ _ _
  | exact LeO.none _
  | refine LeO.ite ?_ ?_
  | refine LeO.bind ?_ (fun _ => ?_)
set_option maxHeartbeats 8000000 in
set_option maxRecDepth 100000 in
theorem seneschallaw17_PastReads.calls (k : Nat) (A0 : Option Addr) (c0 : Nat) (l0 : List (S31)) (a1 : Int) (a2_0 : Int) (a2_1 : Int) (a2_2 : Int) (r : Bool) (w : World) (hr0 : Kd.C k31 w A0 l0.length l0) (hc0 : l0.length ≤ c0) (h : seneschallaw17_PastReads.f k l0 a1 a2_0 a2_1 a2_2 = some r) :
 Calls Try.prog 3 #[.slice A0 l0.length c0, .int .i64 a1, .agg #[.int .i64 a2_0, .int .i64 a2_1, .int .i64 a2_2]] w fun e w' => e = .returned (.bool r) ∧ Below w.heap.size w w' := by
 have hu24 := Try.underlying24
 have hu31 := Try.underlying31
 have HR0 := Aside0.mk hr0
 have HC0 := Aside0.mk hc0
 clear hr0 hc0
 have HB := Aside0.mk (Below.refl w.heap.size w)
 have H : ((seneschallaw17_awake.f).bind fun t463 => (if t463 = true then ((seneschallaw17_great.f k l0).bind fun t464 => (if t464 = true then (some true) else ((past_Of.f k l0 a2_0 a2_1 a2_2).bind fun t465 => ((seneschalref17_Of.f k l0 a2_0 a2_1 a2_2).bind fun t468 => (if (t465.length : Int) = (t468.length : Int) then (seneschallaw17_PastReads.l0 k l0 a1 t465 t468 0) else (some false)))))) else (some false))) = some r := h
 clear h
 replace H := Option.bind_eq_some_iff.mp H
 obtain ⟨t463, A40, H⟩ := H
 replace H : (if t463 = true then ((seneschallaw17_great.f k l0).bind fun t464 => (if t464 = true then (some true) else ((past_Of.f k l0 a2_0 a2_1 a2_2).bind fun t465 => ((seneschalref17_Of.f k l0 a2_0 a2_1 a2_2).bind fun t468 => (if (t465.length : Int) = (t468.length : Int) then (seneschallaw17_PastReads.l0 k l0 a1 t465 t468 0) else (some false)))))) else (some false)) = some r := H
 have A4 := Aside0.mk A40
 clear A40
 by_cases c5 : t463 = true
 · subst c5
   have H1 : ((seneschallaw17_great.f k l0).bind fun t464 => (if t464 = true then (some true) else ((past_Of.f k l0 a2_0 a2_1 a2_2).bind fun t465 => ((seneschalref17_Of.f k l0 a2_0 a2_1 a2_2).bind fun t468 => (if (t465.length : Int) = (t468.length : Int) then (seneschallaw17_PastReads.l0 k l0 a1 t465 t468 0) else (some false)))))) = some r := by rw [if_pos rfl] at H; exact H
   clear H
   have H := H1
   clear H1
   replace H := Option.bind_eq_some_iff.mp H
   obtain ⟨t464, A60, H⟩ := H
   replace H : (if t464 = true then (some true) else ((past_Of.f k l0 a2_0 a2_1 a2_2).bind fun t465 => ((seneschalref17_Of.f k l0 a2_0 a2_1 a2_2).bind fun t468 => (if (t465.length : Int) = (t468.length : Int) then (seneschallaw17_PastReads.l0 k l0 a1 t465 t468 0) else (some false))))) = some r := H
   have A6 := Aside0.mk A60
   clear A60
   by_cases c7 : t464 = true
   · subst c7
     have H1 : (some true) = some r := by rw [if_pos rfl] at H; exact H
     clear H
     have H := H1
     clear H1
     obtain rfl := Option.some.inj H
     go_enter Try.func3, Try.ntmps3
     go_wp2_with (first | ((with_reducible refine gate_dst (N := 5) rfl ?_); refine box_event ?hg (N := 5) ?hd (cs := #[.int .i64 a2_0, .int .i64 a2_1, .int .i64 a2_2]) (t := 24) ?hr ?_; (case hd => rfl); (case hg => rfl); (case hr => first | (go_simp; done) | (go_simp; rfl)); intro gb462 hg w8 hbox hb; have n0_ := Aside0.mk (below_step (by repeat (first | (with_reducible first | exact HB.out | apply below_alloc | apply pw_below_drewN | apply below_drew1) | exact HB.out)) hb); have n1_ := Aside0.mk (hbox); have n2_ := Aside0.mk ((by rw [hg]; exact (below_size (by repeat (first | (with_reducible first | exact HB.out | apply below_alloc | apply pw_below_drewN | apply below_drew1) | exact HB.out))) : w.heap.size ≤ gb462)); have n3_ := Aside0.mk ((by rw [hg]; exact (below_size (by repeat (first | (with_reducible first | exact HB.out | apply below_alloc | apply pw_below_drewN | apply below_drew1) | exact HB.out))) : w.heap.size ≤ gb462)); clear HB; have HB := n0_; have BK462 := n1_; have GW462 := n2_; have GE462 := n3_; clear n0_ n1_ n2_ n3_; clear hb hbox hg) | (go_at_call 8; (with_reducible refine (seneschallaw17_awake.calls  true _ A4.out).mono ?_); rintro e w9 ⟨rfl, hb⟩; have n0_ := Aside0.mk (blk_below (g := gb462) (o := .cells #[.int .i64 a2_0, .int .i64 a2_1, .int .i64 a2_2] 24 (0, 0)) (by (with_reducible repeat (first | refine blk_drewN ?_ _ | refine blk_drew ?_ | refine blk_alloc ?_ _)); exact BK462.out) hb); have n1_ := Aside0.mk (below_step (by repeat (first | (with_reducible first | exact HB.out | apply below_alloc | apply pw_below_drewN | apply below_drew1 | refine below_set ?_ GE462.out) | exact HB.out)) hb); clear BK462; clear HB; have BK462 := n0_; have HB := n1_; clear n0_ n1_; (try clear hb); (try clear hb2); (try clear hk); (try clear hi)) | (go_at_call 9; (with_reducible refine (seneschallaw17_great.calls k _ _ l0 true _ ?side1 ?side2 A6.out).mono ?_); (case side1 => repeat (first | exact (Kd.C_below HR0.out HB.out) | (with_reducible refine Kd.C_alloc ?_ _) | (with_reducible refine Kd.C_drewN ?_ _) | (with_reducible refine Kd.C_drew ?_))); (case side2 => exact HC0.out); rintro e w' ⟨rfl, ⟨nd, rfl⟩⟩; (try first | exact ⟨rfl, _, World.drewN_drewN _ _ _⟩ | exact ⟨rfl, _, Eq.trans (World.drewN_drewN _ _ _) (congrArg (World.drewN _) (Nat.add_assoc _ _ _))⟩)))
     repeat (go_quiet (fail); try go_wp2_with (fail))
     go_ret
     exact ⟨by first | rfl | (simp [errW_none, errW_some] <;> rfl) | (simp [*, errW_none, errW_some] <;> rfl), by repeat (first | (with_reducible first | exact HB.out | apply below_alloc | apply pw_below_drewN | apply below_drew1 | refine below_set ?_ GE462.out) | exact HB.out)⟩
   · replace c7 := Bool.eq_false_iff.mpr c7
     subst c7
     have H1 : ((past_Of.f k l0 a2_0 a2_1 a2_2).bind fun t465 => ((seneschalref17_Of.f k l0 a2_0 a2_1 a2_2).bind fun t468 => (if (t465.length : Int) = (t468.length : Int) then (seneschallaw17_PastReads.l0 k l0 a1 t465 t468 0) else (some false)))) = some r := by rw [if_neg (show ¬ (false = true) by decide)] at H; exact H
     clear H
     have H := H1
     clear H1
     replace H := Option.bind_eq_some_iff.mp H
     obtain ⟨t465, A100, H⟩ := H
     replace H : ((seneschalref17_Of.f k l0 a2_0 a2_1 a2_2).bind fun t468 => (if (t465.length : Int) = (t468.length : Int) then (seneschallaw17_PastReads.l0 k l0 a1 t465 t468 0) else (some false))) = some r := H
     have A10 := Aside0.mk A100
     clear A100
     replace H := Option.bind_eq_some_iff.mp H
     obtain ⟨t468, A110, H⟩ := H
     replace H : (if (t465.length : Int) = (t468.length : Int) then (seneschallaw17_PastReads.l0 k l0 a1 t465 t468 0) else (some false)) = some r := H
     have A11 := Aside0.mk A110
     clear A110
     by_cases c12 : (t465.length : Int) = (t468.length : Int)
     · rw [if_pos c12] at H
       have c12b0 : ((t465.length : Int) == (t468.length : Int)) = true := beq_iff_eq.mpr c12
       have c12b1 : ((t465.length : Int) != (t468.length : Int)) = false := bne_eq_false_iff_eq.mpr c12
       have c12b2 : (t465.length == t468.length) = true := by first | simpa using c12 | (simp at c12 ⊢; omega)
       clear c12
       have H' := Aside0.mk H
       clear H
       go_enter Try.func3, Try.ntmps3
       go_wp2_with (first | ((with_reducible refine gate_dst (N := 5) rfl ?_); refine box_event ?hg (N := 5) ?hd (cs := #[.int .i64 a2_0, .int .i64 a2_1, .int .i64 a2_2]) (t := 24) ?hr ?_; (case hd => rfl); (case hg => rfl); (case hr => first | (go_simp; done) | (go_simp; rfl)); intro gb462 hg w13 hbox hb; have n0_ := Aside0.mk (below_step (by repeat (first | (with_reducible first | exact HB.out | apply below_alloc | apply pw_below_drewN | apply below_drew1) | exact HB.out)) hb); have n1_ := Aside0.mk (hbox); have n2_ := Aside0.mk ((by rw [hg]; exact (below_size (by repeat (first | (with_reducible first | exact HB.out | apply below_alloc | apply pw_below_drewN | apply below_drew1) | exact HB.out))) : w.heap.size ≤ gb462)); have n3_ := Aside0.mk ((by rw [hg]; exact (below_size (by repeat (first | (with_reducible first | exact HB.out | apply below_alloc | apply pw_below_drewN | apply below_drew1) | exact HB.out))) : w.heap.size ≤ gb462)); clear HB; have HB := n0_; have BK462 := n1_; have GW462 := n2_; have GE462 := n3_; clear n0_ n1_ n2_ n3_; clear hb hbox hg) | (go_at_call 8; (with_reducible refine (seneschallaw17_awake.calls  true _ A4.out).mono ?_); rintro e w14 ⟨rfl, hb⟩; have n0_ := Aside0.mk (blk_below (g := gb462) (o := .cells #[.int .i64 a2_0, .int .i64 a2_1, .int .i64 a2_2] 24 (0, 0)) (by (with_reducible repeat (first | refine blk_drewN ?_ _ | refine blk_drew ?_ | refine blk_alloc ?_ _)); exact BK462.out) hb); have n1_ := Aside0.mk (below_step (by repeat (first | (with_reducible first | exact HB.out | apply below_alloc | apply pw_below_drewN | apply below_drew1 | refine below_set ?_ GE462.out) | exact HB.out)) hb); clear BK462; clear HB; have BK462 := n0_; have HB := n1_; clear n0_ n1_; (try clear hb); (try clear hb2); (try clear hk); (try clear hi)) | (go_at_call 9; (with_reducible refine (seneschallaw17_great.calls k _ _ l0 false _ ?side1 ?side2 A6.out).mono ?_); (case side1 => repeat (first | exact (Kd.C_below HR0.out HB.out) | (with_reducible refine Kd.C_alloc ?_ _) | (with_reducible refine Kd.C_drewN ?_ _) | (with_reducible refine Kd.C_drew ?_))); (case side2 => exact HC0.out); rintro e w' ⟨rfl, ⟨nd, rfl⟩⟩; (try first | exact ⟨rfl, _, World.drewN_drewN _ _ _⟩ | exact ⟨rfl, _, Eq.trans (World.drewN_drewN _ _ _) (congrArg (World.drewN _) (Nat.add_assoc _ _ _))⟩); have hcz15_0 : w14.cell? ⟨gb462, 0, none⟩ = some (.int .i64 a2_0) := (blk_cell BK462.out 0).trans rfl; have hcz15_1 : w14.cell? ⟨gb462, 1, none⟩ = some (.int .i64 a2_1) := (blk_cell BK462.out 1).trans rfl; have hcz15_2 : w14.cell? ⟨gb462, 2, none⟩ = some (.int .i64 a2_2) := (blk_cell BK462.out 2).trans rfl; have hfz15_0 := blk_frozen BK462.out 0; have hfz15_1 := blk_frozen BK462.out 1; have hfz15_2 := blk_frozen BK462.out 2) | (go_at_call 10; (with_reducible refine (past_Of.calls k _ _ l0 a2_0 a2_1 a2_2 t465 _ ?side1 ?side2 A10.out).mono ?_); (case side1 => repeat (first | exact (Kd.C_below HR0.out (by repeat (first | (with_reducible first | exact HB.out | apply below_alloc | apply pw_below_drewN | apply below_drew1 | refine below_set ?_ GE462.out) | exact HB.out))) | (with_reducible refine Kd.C_alloc ?_ _) | (with_reducible refine Kd.C_drewN ?_ _) | (with_reducible refine Kd.C_drew ?_))); (case side2 => exact HC0.out); rintro e w16 ⟨v466, rfl, ho0, hb⟩; have n0_ := Aside0.mk (Kd.R_lower ho0 (below_size (by repeat (first | (with_reducible first | exact HB.out | apply below_alloc | apply pw_below_drewN | apply below_drew1 | refine below_set ?_ GE462.out) | exact HB.out)))); have n1_ := Aside0.mk (blk_below (g := gb462) (o := .cells #[.int .i64 a2_0, .int .i64 a2_1, .int .i64 a2_2] 24 (0, 0)) (by (with_reducible repeat (first | refine blk_drewN ?_ _ | refine blk_drew ?_ | refine blk_alloc ?_ _)); exact BK462.out) hb); have n2_ := Aside0.mk (below_step (by repeat (first | (with_reducible first | exact HB.out | apply below_alloc | apply pw_below_drewN | apply below_drew1 | refine below_set ?_ GE462.out) | exact HB.out)) hb); clear BK462; clear HB; have HO467 := n0_; have BK462 := n1_; have HB := n2_; clear n0_ n1_ n2_; (try clear hb); (try clear hb2); (try clear hk); (try clear hi); (try clear ho0); have hcz17_0 : w16.cell? ⟨gb462, 0, none⟩ = some (.int .i64 a2_0) := (blk_cell BK462.out 0).trans rfl; have hcz17_1 : w16.cell? ⟨gb462, 1, none⟩ = some (.int .i64 a2_1) := (blk_cell BK462.out 1).trans rfl; have hcz17_2 : w16.cell? ⟨gb462, 2, none⟩ = some (.int .i64 a2_2) := (blk_cell BK462.out 2).trans rfl; have hfz17_0 := blk_frozen BK462.out 0; have hfz17_1 := blk_frozen BK462.out 1; have hfz17_2 := blk_frozen BK462.out 2) | (go_at_call 11; (with_reducible refine (seneschalref17_Of.calls k _ _ l0 a2_0 a2_1 a2_2 t468 _ ?side1 ?side2 A11.out).mono ?_); (case side1 => repeat (first | exact (Kd.C_below HR0.out HB.out) | (with_reducible refine Kd.C_alloc ?_ _) | (with_reducible refine Kd.C_drewN ?_ _) | (with_reducible refine Kd.C_drew ?_))); (case side2 => exact HC0.out); rintro e w18 ⟨v469, rfl, ho0, hb⟩; have n0_ := Aside0.mk (Kd.R_elder' (by (with_reducible repeat (first | apply Kd.R_alloc | apply Kd.R_drewN | apply Kd.R_drew)); exact HO467.out) (Kd.R_base ho0) hb); have n1_ := Aside0.mk (Kd.R_lower (Kd.R_new' ho0 (Kd.R_lt (by (with_reducible repeat (first | apply Kd.R_alloc | apply Kd.R_drewN | apply Kd.R_drew)); exact HO467.out))) (below_size (by repeat (first | (with_reducible first | exact HB.out | apply below_alloc | apply pw_below_drewN | apply below_drew1 | refine below_set ?_ GE462.out) | exact HB.out)))); have n2_ := Aside0.mk (blk_below (g := gb462) (o := .cells #[.int .i64 a2_0, .int .i64 a2_1, .int .i64 a2_2] 24 (0, 0)) (by (with_reducible repeat (first | refine blk_drewN ?_ _ | refine blk_drew ?_ | refine blk_alloc ?_ _)); exact BK462.out) hb); have n3_ := Aside0.mk (below_step (by repeat (first | (with_reducible first | exact HB.out | apply below_alloc | apply pw_below_drewN | apply below_drew1 | refine below_set ?_ GE462.out) | exact HB.out)) hb); clear HO467; clear BK462; clear HB; have HO467 := n0_; have HO470 := n1_; have BK462 := n2_; have HB := n3_; clear n0_ n1_ n2_ n3_; (try clear hb); (try clear hb2); (try clear hk); (try clear hi); (try clear ho0); obtain ⟨Ao19, co19, eo19⟩ := Kd.R_slice HO467.out; subst eo19; obtain ⟨Ao20, co20, eo20⟩ := Kd.R_slice HO470.out; subst eo20))
       repeat (go_quiet (fail); try go_wp2_with (fail))
       go_loopg [9] k (fun kq v9 w' => ∃ (x9_1 : Int), v9 = .int .i64 x9_1 ∧ Aside0 (seneschallaw17_PastReads.l0 kq l0 a1 t465 t468 x9_1 = some r) ∧ Aside0 (kq ≤ k) ∧ Aside0 (Kd.R k31 31 w' w.heap.size (fun k_ => some k_ ≠ ((.slice Ao20 t468.length co20) : Value).ownBlock) (.slice Ao19 t465.length co19) t465) ∧ Aside0 (Kd.R k31 31 w' w.heap.size (fun k_ => some k_ ≠ ((.slice Ao19 t465.length co19) : Value).ownBlock) (.slice Ao20 t468.length co20) t468) ∧ Aside0 (w'.heap[gb462]? = some (.cells #[.int .i64 a2_0, .int .i64 a2_1, .int .i64 a2_2] 24 (0, 0))) ∧ Aside0 (Below w.heap.size w w'))
       case atStart => exact ⟨(0), (by first | rfl | (simp; done) | (simp [*]; done)), H', ⟨Nat.le_refl _⟩, ⟨by (with_reducible repeat (first | apply Kd.R_alloc | apply Kd.R_drewN | apply Kd.R_drew)); exact Kd.R_mono HO467.out (fun _ hk => hk.2)⟩, ⟨by (with_reducible repeat (first | apply Kd.R_alloc | apply Kd.R_drewN | apply Kd.R_drew)); exact Kd.R_mono HO470.out (fun _ hk => hk.2)⟩, ⟨by (with_reducible repeat (first | refine blk_drewN ?_ _ | refine blk_drew ?_ | refine blk_alloc ?_ _)); exact BK462.out⟩, ⟨by repeat (first | (with_reducible first | exact HB.out | apply below_alloc | apply pw_below_drewN | apply below_drew1 | refine below_set ?_ GE462.out) | exact HB.out)⟩⟩
       case round =>
        clear H'
        try clear c1
        try clear p2
        try clear c3
        try clear c5
        try clear c7
        try clear c12
        try clear c12b0
        try clear c12b1
        try clear c12b2
        try clear hcz15_0
        try clear hcz15_1
        try clear hcz15_2
        try clear hcz17_0
        try clear hcz17_1
        try clear hcz17_2
        try clear hfz15_0
        try clear hfz15_1
        try clear hfz15_2
        try clear hfz17_0
        try clear hfz17_1
        try clear hfz17_2
        obtain ⟨x9_1, rfl, HA, HK1, HO_7, HO_8, BK462, HB⟩ := hrel
        cases gk with
        | zero => exact absurd HA.out (by simp [seneschallaw17_PastReads.l0])
        | succ k1 =>
         have H := HA.out
         clear HA
         simp only [seneschallaw17_PastReads.l0] at H
         by_cases c21 : x9_1 < (t465.length : Int)
         · rw [if_pos c21] at H
           have c21b0 : decide (x9_1 < (t465.length : Int)) = true := decide_eq_true c21
           clear c21
           by_cases c22 : 0 ≤ x9_1
           · rw [if_pos c22] at H
             have c22b0 : decide (0 ≤ x9_1) = true := decide_eq_true c22
             clear c22
             by_cases c23 : x9_1 < (t468.length : Int)
             · rw [if_pos c23] at H
               have c23b0 : decide (x9_1 < (t468.length : Int)) = true := decide_eq_true c23
               clear c23
               by_cases c24 : (!(((rd_T31 t465 x9_1).f0) == ((rd_T31 t468 x9_1).f0)) || ((!(((rd_T31 t465 x9_1).f1.f0) == ((rd_T31 t468 x9_1).f1.f0)) || (!(((rd_T31 t465 x9_1).f1.f1) == ((rd_T31 t468 x9_1).f1.f1)) || (!(((rd_T31 t465 x9_1).f1.f2) == ((rd_T31 t468 x9_1).f1.f2))))) || (!(((rd_T31 t465 x9_1).f2) == ((rd_T31 t468 x9_1).f2)) || (!(((rd_T31 t465 x9_1).f3) == ((rd_T31 t468 x9_1).f3)) || (!(((rd_T31 t465 x9_1).f4) == ((rd_T31 t468 x9_1).f4)) || (!(((rd_T31 t465 x9_1).f5) == ((rd_T31 t468 x9_1).f5)) || ((!(((rd_T31 t465 x9_1).f6.f0) == ((rd_T31 t468 x9_1).f6.f0)) || (!((((rd_T31 t465 x9_1).f6.f1).toList) == (((rd_T31 t468 x9_1).f6.f1).toList)))) || ((!(((rd_T31 t465 x9_1).f7.f0) == ((rd_T31 t468 x9_1).f7.f0)) || (!((((rd_T31 t465 x9_1).f7.f1).toList) == (((rd_T31 t468 x9_1).f7.f1).toList)))) || (!(((rd_T31 t465 x9_1).f8) == ((rd_T31 t468 x9_1).f8))))))))))) = true
               · rw [if_pos c24] at H
                 have c24b0 : (!(((rd_T31 t465 x9_1).f0) == ((rd_T31 t468 x9_1).f0)) || ((!(((rd_T31 t465 x9_1).f1.f0) == ((rd_T31 t468 x9_1).f1.f0)) || (!(((rd_T31 t465 x9_1).f1.f1) == ((rd_T31 t468 x9_1).f1.f1)) || (!(((rd_T31 t465 x9_1).f1.f2) == ((rd_T31 t468 x9_1).f1.f2))))) || (!(((rd_T31 t465 x9_1).f2) == ((rd_T31 t468 x9_1).f2)) || (!(((rd_T31 t465 x9_1).f3) == ((rd_T31 t468 x9_1).f3)) || (!(((rd_T31 t465 x9_1).f4) == ((rd_T31 t468 x9_1).f4)) || (!(((rd_T31 t465 x9_1).f5) == ((rd_T31 t468 x9_1).f5)) || ((!(((rd_T31 t465 x9_1).f6.f0) == ((rd_T31 t468 x9_1).f6.f0)) || (!((((rd_T31 t465 x9_1).f6.f1).toList) == (((rd_T31 t468 x9_1).f6.f1).toList)))) || ((!(((rd_T31 t465 x9_1).f7.f0) == ((rd_T31 t468 x9_1).f7.f0)) || (!((((rd_T31 t465 x9_1).f7.f1).toList) == (((rd_T31 t468 x9_1).f7.f1).toList)))) || (!(((rd_T31 t465 x9_1).f8) == ((rd_T31 t468 x9_1).f8))))))))))) = true := c24
                 clear c24
                 obtain rfl := Option.some.inj H
                 have p471 : 0 ≤ (x9_1 : Int) := of_decide_eq_true (by first | (with_reducible assumption) | assumption)
                 have q471 : x9_1 < (t465.length : Int) := of_decide_eq_true (by first | (with_reducible assumption) | assumption)
                 obtain ⟨ad471, e471, hx471_0, hx471_1, hx471_2, hx471_3, hx471_4, hx471_5, hx471_6, hx471_7, hx471_8, hx471_9, hx471_10, hx471_11, hx471_12⟩ := at_T31 (Kd.R_reads' HO_7.out).2.2 x9_1 p471 q471
                 cases e471
                 replace p471 := eq_true p471
                 replace q471 := eq_true q471
                 have p472 : 0 ≤ (x9_1 : Int) := of_decide_eq_true (by first | (with_reducible assumption) | assumption)
                 have q472 : x9_1 < (t468.length : Int) := of_decide_eq_true (by first | (with_reducible assumption) | assumption)
                 obtain ⟨ad472, e472, hx472_0, hx472_1, hx472_2, hx472_3, hx472_4, hx472_5, hx472_6, hx472_7, hx472_8, hx472_9, hx472_10, hx472_11, hx472_12⟩ := at_T31 (Kd.R_reads' HO_8.out).2.2 x9_1 p472 q472
                 cases e472
                 replace p472 := eq_true p472
                 replace q472 := eq_true q472
                 go_wp2
                 repeat (go_quiet (fail); try go_wp2)
                 go_ret
                 exact ⟨by first | rfl | (simp [errW_none, errW_some] <;> rfl) | (simp [*, errW_none, errW_some] <;> rfl), by repeat (first | (with_reducible first | exact HB.out | apply below_alloc | apply pw_below_drewN | apply below_drew1 | refine below_set ?_ GE462.out) | exact HB.out)⟩
               · rw [if_neg c24] at H
                 have c24b0 : (!(((rd_T31 t465 x9_1).f0) == ((rd_T31 t468 x9_1).f0)) || ((!(((rd_T31 t465 x9_1).f1.f0) == ((rd_T31 t468 x9_1).f1.f0)) || (!(((rd_T31 t465 x9_1).f1.f1) == ((rd_T31 t468 x9_1).f1.f1)) || (!(((rd_T31 t465 x9_1).f1.f2) == ((rd_T31 t468 x9_1).f1.f2))))) || (!(((rd_T31 t465 x9_1).f2) == ((rd_T31 t468 x9_1).f2)) || (!(((rd_T31 t465 x9_1).f3) == ((rd_T31 t468 x9_1).f3)) || (!(((rd_T31 t465 x9_1).f4) == ((rd_T31 t468 x9_1).f4)) || (!(((rd_T31 t465 x9_1).f5) == ((rd_T31 t468 x9_1).f5)) || ((!(((rd_T31 t465 x9_1).f6.f0) == ((rd_T31 t468 x9_1).f6.f0)) || (!((((rd_T31 t465 x9_1).f6.f1).toList) == (((rd_T31 t468 x9_1).f6.f1).toList)))) || ((!(((rd_T31 t465 x9_1).f7.f0) == ((rd_T31 t468 x9_1).f7.f0)) || (!((((rd_T31 t465 x9_1).f7.f1).toList) == (((rd_T31 t468 x9_1).f7.f1).toList)))) || (!(((rd_T31 t465 x9_1).f8) == ((rd_T31 t468 x9_1).f8))))))))))) = false := by simpa using c24
                 clear c24
                 have H' := Aside0.mk H
                 clear H
                 have p471 : 0 ≤ (x9_1 : Int) := of_decide_eq_true (by first | (with_reducible assumption) | assumption)
                 have q471 : x9_1 < (t465.length : Int) := of_decide_eq_true (by first | (with_reducible assumption) | assumption)
                 obtain ⟨ad471, e471, hx471_0, hx471_1, hx471_2, hx471_3, hx471_4, hx471_5, hx471_6, hx471_7, hx471_8, hx471_9, hx471_10, hx471_11, hx471_12⟩ := at_T31 (Kd.R_reads' HO_7.out).2.2 x9_1 p471 q471
                 cases e471
                 replace p471 := eq_true p471
                 replace q471 := eq_true q471
                 have p472 : 0 ≤ (x9_1 : Int) := of_decide_eq_true (by first | (with_reducible assumption) | assumption)
                 have q472 : x9_1 < (t468.length : Int) := of_decide_eq_true (by first | (with_reducible assumption) | assumption)
                 obtain ⟨ad472, e472, hx472_0, hx472_1, hx472_2, hx472_3, hx472_4, hx472_5, hx472_6, hx472_7, hx472_8, hx472_9, hx472_10, hx472_11, hx472_12⟩ := at_T31 (Kd.R_reads' HO_8.out).2.2 x9_1 p472 q472
                 cases e472
                 replace p472 := eq_true p472
                 replace q472 := eq_true q472
                 go_wp2
                 repeat (go_quiet (fail); try go_wp2)
                 go_roundg k1
                 case measure => have := HK1.out; omega
                 case rel => exact ⟨(wrap64 (x9_1 + 1)), (by first | rfl | (simp; done) | (simp [*]; done)), H', ⟨by have := HK1.out; omega⟩, ⟨by (with_reducible repeat (first | apply Kd.R_alloc | apply Kd.R_drewN | apply Kd.R_drew)); exact HO_7.out⟩, ⟨by (with_reducible repeat (first | apply Kd.R_alloc | apply Kd.R_drewN | apply Kd.R_drew)); exact HO_8.out⟩, ⟨by (with_reducible repeat (first | refine blk_drewN ?_ _ | refine blk_drew ?_ | refine blk_alloc ?_ _)); exact BK462.out⟩, ⟨by repeat (first | (with_reducible first | exact HB.out | apply below_alloc | apply pw_below_drewN | apply below_drew1 | refine below_set ?_ GE462.out) | exact HB.out)⟩⟩
             · rw [if_neg c23] at H
               exact absurd H (by simp)
           · rw [if_neg c22] at H
             exact absurd H (by simp)
         · rw [if_neg c21] at H
           have c21b0 : decide (x9_1 < (t465.length : Int)) = false := decide_eq_false c21
           clear c21
           replace H := Option.bind_eq_some_iff.mp H
           obtain ⟨⟨t473, t476, t479⟩, A250, H⟩ := H
           replace H : ((seneschalref17_Read.f l0 a1).bind fun bt482 => ((seneschalref17_Same.f k1 t473 t476 t479 bt482.1 bt482.2.1 bt482.2.2).bind fun t491 => (if t491 = true then ((past_Needed.f l0 a1).bind fun t492 => ((seneschalref17_Needed.f k1 l0 a1).bind fun t493 => (some (t492 == t493)))) else (some false)))) = some r := H
           have A25 := Aside0.mk A250
           clear A250
           replace H := Option.bind_eq_some_iff.mp H
           obtain ⟨⟨t482, t485, t488⟩, A260, H⟩ := H
           replace H : ((seneschalref17_Same.f k1 t473 t476 t479 t482 t485 t488).bind fun t491 => (if t491 = true then ((past_Needed.f l0 a1).bind fun t492 => ((seneschalref17_Needed.f k1 l0 a1).bind fun t493 => (some (t492 == t493)))) else (some false))) = some r := H
           have A26 := Aside0.mk A260
           clear A260
           replace H := Option.bind_eq_some_iff.mp H
           obtain ⟨t491, A270, H⟩ := H
           replace H : (if t491 = true then ((past_Needed.f l0 a1).bind fun t492 => ((seneschalref17_Needed.f k1 l0 a1).bind fun t493 => (some (t492 == t493)))) else (some false)) = some r := H
           have A27 := Aside0.mk A270
           clear A270
           by_cases c28 : t491 = true
           · subst c28
             have H1 : ((past_Needed.f l0 a1).bind fun t492 => ((seneschalref17_Needed.f k1 l0 a1).bind fun t493 => (some (t492 == t493)))) = some r := by rw [if_pos rfl] at H; exact H
             clear H
             have H := H1
             clear H1
             replace H := Option.bind_eq_some_iff.mp H
             obtain ⟨t492, A290, H⟩ := H
             replace H : ((seneschalref17_Needed.f k1 l0 a1).bind fun t493 => (some (t492 == t493))) = some r := H
             have A29 := Aside0.mk A290
             clear A290
             replace H := Option.bind_eq_some_iff.mp H
             obtain ⟨t493, A300, H⟩ := H
             replace H : (some (t492 == t493)) = some r := H
             have A30 := Aside0.mk A300
             clear A300
             obtain rfl := Option.some.inj H
             go_wp2_with (first | (go_at_call 13; (with_reducible refine (past_Read.calls _ _ l0 a1 t473 t476 t479 _ ?side1 ?side2 A25.out).mono ?_); (case side1 => repeat (first | exact (Kd.C_below HR0.out HB.out) | (with_reducible refine Kd.C_alloc ?_ _) | (with_reducible refine Kd.C_drewN ?_ _) | (with_reducible refine Kd.C_drew ?_))); (case side2 => exact HC0.out); rintro e w31 ⟨v474, v477, v480, rfl, ho0, ho1, ho2, hb⟩; have n0_ := Aside0.mk (Kd.R_below (by (with_reducible repeat (first | apply Kd.R_alloc | apply Kd.R_drewN | apply Kd.R_drew)); exact HO_7.out) hb); have n1_ := Aside0.mk (Kd.R_below (by (with_reducible repeat (first | apply Kd.R_alloc | apply Kd.R_drewN | apply Kd.R_drew)); exact HO_8.out) hb); have n2_ := Aside0.mk (Kd.R_lower ho0 (below_size (by repeat (first | (with_reducible first | exact HB.out | apply below_alloc | apply pw_below_drewN | apply below_drew1 | refine below_set ?_ GE462.out) | exact HB.out)))); have n3_ := Aside0.mk (Kd.R_lower (Kd.R_newB ho1 (g := gb462) (o := .cells #[.int .i64 a2_0, .int .i64 a2_1, .int .i64 a2_2] 24 (0, 0)) (by (with_reducible repeat (first | refine blk_drewN ?_ _ | refine blk_drew ?_ | refine blk_alloc ?_ _)); exact BK462.out)) (below_size (by repeat (first | (with_reducible first | exact HB.out | apply below_alloc | apply pw_below_drewN | apply below_drew1 | refine below_set ?_ GE462.out) | exact HB.out)))); have n4_ := Aside0.mk (Kd.R_lower ho2 (below_size (by repeat (first | (with_reducible first | exact HB.out | apply below_alloc | apply pw_below_drewN | apply below_drew1 | refine below_set ?_ GE462.out) | exact HB.out)))); have n5_ := Aside0.mk (blk_below (g := gb462) (o := .cells #[.int .i64 a2_0, .int .i64 a2_1, .int .i64 a2_2] 24 (0, 0)) (by (with_reducible repeat (first | refine blk_drewN ?_ _ | refine blk_drew ?_ | refine blk_alloc ?_ _)); exact BK462.out) hb); have n6_ := Aside0.mk (below_step (by repeat (first | (with_reducible first | exact HB.out | apply below_alloc | apply pw_below_drewN | apply below_drew1 | refine below_set ?_ GE462.out) | exact HB.out)) hb); clear HO_7; clear HO_8; clear BK462; clear HB; have HO_7 := n0_; have HO_8 := n1_; have HO475 := n2_; have HO478 := n3_; have HO481 := n4_; have BK462 := n5_; have HB := n6_; clear n0_ n1_ n2_ n3_ n4_ n5_ n6_; (try clear hb); (try clear hb2); (try clear hk); (try clear hi); (try clear ho0); (try clear ho1); (try clear ho2)) | (go_at_call 14; (with_reducible refine (seneschalref17_Read.calls _ _ l0 a1 t482 t485 t488 _ ?side1 ?side2 A26.out).mono ?_); (case side1 => repeat (first | exact (Kd.C_below HR0.out HB.out) | (with_reducible refine Kd.C_alloc ?_ _) | (with_reducible refine Kd.C_drewN ?_ _) | (with_reducible refine Kd.C_drew ?_))); (case side2 => exact HC0.out); rintro e w32 ⟨v483, v486, v489, rfl, ho0, ho1, ho2, hb⟩; have n0_ := Aside0.mk (Kd.R_below (by (with_reducible repeat (first | apply Kd.R_alloc | apply Kd.R_drewN | apply Kd.R_drew)); exact HO_7.out) hb); have n1_ := Aside0.mk (Kd.R_below (by (with_reducible repeat (first | apply Kd.R_alloc | apply Kd.R_drewN | apply Kd.R_drew)); exact HO_8.out) hb); have n2_ := Aside0.mk (Kd.R_elder' (by (with_reducible repeat (first | apply Kd.R_alloc | apply Kd.R_drewN | apply Kd.R_drew)); exact HO475.out) (Kd.R_base ho0) hb); have n3_ := Aside0.mk (Kd.R_elder' (by (with_reducible repeat (first | apply Kd.R_alloc | apply Kd.R_drewN | apply Kd.R_drew)); exact HO478.out) (Kd.R_base ho1) hb); have n4_ := Aside0.mk (Kd.R_elder' (by (with_reducible repeat (first | apply Kd.R_alloc | apply Kd.R_drewN | apply Kd.R_drew)); exact HO481.out) (Kd.R_base ho2) hb); have n5_ := Aside0.mk (Kd.R_lower (Kd.R_new' ho0 (Kd.R_lt (by (with_reducible repeat (first | apply Kd.R_alloc | apply Kd.R_drewN | apply Kd.R_drew)); exact HO475.out))) (below_size (by repeat (first | (with_reducible first | exact HB.out | apply below_alloc | apply pw_below_drewN | apply below_drew1 | refine below_set ?_ GE462.out) | exact HB.out)))); have n6_ := Aside0.mk (Kd.R_lower (Kd.R_newB (Kd.R_new' ho1 (Kd.R_lt (by (with_reducible repeat (first | apply Kd.R_alloc | apply Kd.R_drewN | apply Kd.R_drew)); exact HO478.out))) (g := gb462) (o := .cells #[.int .i64 a2_0, .int .i64 a2_1, .int .i64 a2_2] 24 (0, 0)) (by (with_reducible repeat (first | refine blk_drewN ?_ _ | refine blk_drew ?_ | refine blk_alloc ?_ _)); exact BK462.out)) (below_size (by repeat (first | (with_reducible first | exact HB.out | apply below_alloc | apply pw_below_drewN | apply below_drew1 | refine below_set ?_ GE462.out) | exact HB.out)))); have n7_ := Aside0.mk (Kd.R_lower (Kd.R_new' ho2 (Kd.R_lt (by (with_reducible repeat (first | apply Kd.R_alloc | apply Kd.R_drewN | apply Kd.R_drew)); exact HO481.out))) (below_size (by repeat (first | (with_reducible first | exact HB.out | apply below_alloc | apply pw_below_drewN | apply below_drew1 | refine below_set ?_ GE462.out) | exact HB.out)))); have n8_ := Aside0.mk (blk_below (g := gb462) (o := .cells #[.int .i64 a2_0, .int .i64 a2_1, .int .i64 a2_2] 24 (0, 0)) (by (with_reducible repeat (first | refine blk_drewN ?_ _ | refine blk_drew ?_ | refine blk_alloc ?_ _)); exact BK462.out) hb); have n9_ := Aside0.mk (below_step (by repeat (first | (with_reducible first | exact HB.out | apply below_alloc | apply pw_below_drewN | apply below_drew1 | refine below_set ?_ GE462.out) | exact HB.out)) hb); clear HO_7; clear HO_8; clear HO475; clear HO478; clear HO481; clear BK462; clear HB; have HO_7 := n0_; have HO_8 := n1_; have HO475 := n2_; have HO478 := n3_; have HO481 := n4_; have HO484 := n5_; have HO487 := n6_; have HO490 := n7_; have BK462 := n8_; have HB := n9_; clear n0_ n1_ n2_ n3_ n4_ n5_ n6_ n7_ n8_ n9_; (try clear hb); (try clear hb2); (try clear hk); (try clear hi); (try clear ho0); (try clear ho1); (try clear ho2); obtain ⟨Ao33, co33, eo33⟩ := Kd.R_slice HO475.out; subst eo33; obtain ⟨Ao34, co34, eo34⟩ := Kd.R_slice HO478.out; subst eo34; obtain ⟨Ao35, co35, eo35⟩ := Kd.R_slice HO481.out; subst eo35; obtain ⟨Ao36, co36, eo36⟩ := Kd.R_slice HO484.out; subst eo36; obtain ⟨Ao37, co37, eo37⟩ := Kd.R_slice HO487.out; subst eo37; obtain ⟨Ao38, co38, eo38⟩ := Kd.R_slice HO490.out; subst eo38) | (go_at_call 12; (with_reducible refine (seneschalref17_Same.calls k1 _ _ t473 _ _ t476 _ _ t479 _ _ t482 _ _ t485 _ _ t488 true _ ?side1 ?side2 ?side3 ?side4 ?side5 ?side6 ?side7 ?side8 ?side9 ?side10 ?side11 ?side12 A27.out).mono ?_); (case side1 => repeat (first | exact (Kd.R_reads' HO475.out).2.2 | (with_reducible refine Kd.C_alloc ?_ _) | (with_reducible refine Kd.C_drewN ?_ _) | (with_reducible refine Kd.C_drew ?_))); (case side2 => exact (Kd.R_reads' HO475.out).2.1); (case side3 => repeat (first | exact (Kd.R_reads' HO478.out).2.2 | (with_reducible refine Kd.C_alloc ?_ _) | (with_reducible refine Kd.C_drewN ?_ _) | (with_reducible refine Kd.C_drew ?_))); (case side4 => exact (Kd.R_reads' HO478.out).2.1); (case side5 => repeat (first | exact (Kd.R_reads' HO481.out).2.2 | (with_reducible refine Kd.C_alloc ?_ _) | (with_reducible refine Kd.C_drewN ?_ _) | (with_reducible refine Kd.C_drew ?_))); (case side6 => exact (Kd.R_reads' HO481.out).2.1); (case side7 => repeat (first | exact (Kd.R_reads' HO484.out).2.2 | (with_reducible refine Kd.C_alloc ?_ _) | (with_reducible refine Kd.C_drewN ?_ _) | (with_reducible refine Kd.C_drew ?_))); (case side8 => exact (Kd.R_reads' HO484.out).2.1); (case side9 => repeat (first | exact (Kd.R_reads' HO487.out).2.2 | (with_reducible refine Kd.C_alloc ?_ _) | (with_reducible refine Kd.C_drewN ?_ _) | (with_reducible refine Kd.C_drew ?_))); (case side10 => exact (Kd.R_reads' HO487.out).2.1); (case side11 => repeat (first | exact (Kd.R_reads' HO490.out).2.2 | (with_reducible refine Kd.C_alloc ?_ _) | (with_reducible refine Kd.C_drewN ?_ _) | (with_reducible refine Kd.C_drew ?_))); (case side12 => exact (Kd.R_reads' HO490.out).2.1); rintro e w39 ⟨rfl, hb⟩; have n0_ := Aside0.mk (Kd.R_below (by (with_reducible repeat (first | apply Kd.R_alloc | apply Kd.R_drewN | apply Kd.R_drew)); exact HO_7.out) hb); have n1_ := Aside0.mk (Kd.R_below (by (with_reducible repeat (first | apply Kd.R_alloc | apply Kd.R_drewN | apply Kd.R_drew)); exact HO_8.out) hb); have n2_ := Aside0.mk (Kd.R_below (by (with_reducible repeat (first | apply Kd.R_alloc | apply Kd.R_drewN | apply Kd.R_drew)); exact HO475.out) hb); have n3_ := Aside0.mk (Kd.R_below (by (with_reducible repeat (first | apply Kd.R_alloc | apply Kd.R_drewN | apply Kd.R_drew)); exact HO478.out) hb); have n4_ := Aside0.mk (Kd.R_below (by (with_reducible repeat (first | apply Kd.R_alloc | apply Kd.R_drewN | apply Kd.R_drew)); exact HO481.out) hb); have n5_ := Aside0.mk (Kd.R_below (by (with_reducible repeat (first | apply Kd.R_alloc | apply Kd.R_drewN | apply Kd.R_drew)); exact HO484.out) hb); have n6_ := Aside0.mk (Kd.R_below (by (with_reducible repeat (first | apply Kd.R_alloc | apply Kd.R_drewN | apply Kd.R_drew)); exact HO487.out) hb); have n7_ := Aside0.mk (Kd.R_below (by (with_reducible repeat (first | apply Kd.R_alloc | apply Kd.R_drewN | apply Kd.R_drew)); exact HO490.out) hb); have n8_ := Aside0.mk (blk_below (g := gb462) (o := .cells #[.int .i64 a2_0, .int .i64 a2_1, .int .i64 a2_2] 24 (0, 0)) (by (with_reducible repeat (first | refine blk_drewN ?_ _ | refine blk_drew ?_ | refine blk_alloc ?_ _)); exact BK462.out) hb); have n9_ := Aside0.mk (below_step (by repeat (first | (with_reducible first | exact HB.out | apply below_alloc | apply pw_below_drewN | apply below_drew1 | refine below_set ?_ GE462.out) | exact HB.out)) hb); clear HO_7; clear HO_8; clear HO475; clear HO478; clear HO481; clear HO484; clear HO487; clear HO490; clear BK462; clear HB; have HO_7 := n0_; have HO_8 := n1_; have HO475 := n2_; have HO478 := n3_; have HO481 := n4_; have HO484 := n5_; have HO487 := n6_; have HO490 := n7_; have BK462 := n8_; have HB := n9_; clear n0_ n1_ n2_ n3_ n4_ n5_ n6_ n7_ n8_ n9_; (try clear hb); (try clear hb2); (try clear hk); (try clear hi)) | (go_at_call 15; (with_reducible refine (past_Needed.calls _ _ l0 a1 t492 _ ?side1 ?side2 A29.out).mono ?_); (case side1 => repeat (first | exact (Kd.C_below HR0.out HB.out) | (with_reducible refine Kd.C_alloc ?_ _) | (with_reducible refine Kd.C_drewN ?_ _) | (with_reducible refine Kd.C_drew ?_))); (case side2 => exact HC0.out); rintro e w40 ⟨rfl, hb⟩; have n0_ := Aside0.mk (Kd.R_below (by (with_reducible repeat (first | apply Kd.R_alloc | apply Kd.R_drewN | apply Kd.R_drew)); exact HO_7.out) hb); have n1_ := Aside0.mk (Kd.R_below (by (with_reducible repeat (first | apply Kd.R_alloc | apply Kd.R_drewN | apply Kd.R_drew)); exact HO_8.out) hb); have n2_ := Aside0.mk (Kd.R_below (by (with_reducible repeat (first | apply Kd.R_alloc | apply Kd.R_drewN | apply Kd.R_drew)); exact HO475.out) hb); have n3_ := Aside0.mk (Kd.R_below (by (with_reducible repeat (first | apply Kd.R_alloc | apply Kd.R_drewN | apply Kd.R_drew)); exact HO478.out) hb); have n4_ := Aside0.mk (Kd.R_below (by (with_reducible repeat (first | apply Kd.R_alloc | apply Kd.R_drewN | apply Kd.R_drew)); exact HO481.out) hb); have n5_ := Aside0.mk (Kd.R_below (by (with_reducible repeat (first | apply Kd.R_alloc | apply Kd.R_drewN | apply Kd.R_drew)); exact HO484.out) hb); have n6_ := Aside0.mk (Kd.R_below (by (with_reducible repeat (first | apply Kd.R_alloc | apply Kd.R_drewN | apply Kd.R_drew)); exact HO487.out) hb); have n7_ := Aside0.mk (Kd.R_below (by (with_reducible repeat (first | apply Kd.R_alloc | apply Kd.R_drewN | apply Kd.R_drew)); exact HO490.out) hb); have n8_ := Aside0.mk (blk_below (g := gb462) (o := .cells #[.int .i64 a2_0, .int .i64 a2_1, .int .i64 a2_2] 24 (0, 0)) (by (with_reducible repeat (first | refine blk_drewN ?_ _ | refine blk_drew ?_ | refine blk_alloc ?_ _)); exact BK462.out) hb); have n9_ := Aside0.mk (below_step (by repeat (first | (with_reducible first | exact HB.out | apply below_alloc | apply pw_below_drewN | apply below_drew1 | refine below_set ?_ GE462.out) | exact HB.out)) hb); clear HO_7; clear HO_8; clear HO475; clear HO478; clear HO481; clear HO484; clear HO487; clear HO490; clear BK462; clear HB; have HO_7 := n0_; have HO_8 := n1_; have HO475 := n2_; have HO478 := n3_; have HO481 := n4_; have HO484 := n5_; have HO487 := n6_; have HO490 := n7_; have BK462 := n8_; have HB := n9_; clear n0_ n1_ n2_ n3_ n4_ n5_ n6_ n7_ n8_ n9_; (try clear hb); (try clear hb2); (try clear hk); (try clear hi)) | (go_at_call 16; (with_reducible refine (seneschalref17_Needed.calls k1 _ _ l0 a1 t493 _ ?side1 ?side2 A30.out).mono ?_); (case side1 => repeat (first | exact (Kd.C_below HR0.out HB.out) | (with_reducible refine Kd.C_alloc ?_ _) | (with_reducible refine Kd.C_drewN ?_ _) | (with_reducible refine Kd.C_drew ?_))); (case side2 => exact HC0.out); rintro e w41 ⟨rfl, hb⟩; have n0_ := Aside0.mk (Kd.R_below (by (with_reducible repeat (first | apply Kd.R_alloc | apply Kd.R_drewN | apply Kd.R_drew)); exact HO_7.out) hb); have n1_ := Aside0.mk (Kd.R_below (by (with_reducible repeat (first | apply Kd.R_alloc | apply Kd.R_drewN | apply Kd.R_drew)); exact HO_8.out) hb); have n2_ := Aside0.mk (Kd.R_below (by (with_reducible repeat (first | apply Kd.R_alloc | apply Kd.R_drewN | apply Kd.R_drew)); exact HO475.out) hb); have n3_ := Aside0.mk (Kd.R_below (by (with_reducible repeat (first | apply Kd.R_alloc | apply Kd.R_drewN | apply Kd.R_drew)); exact HO478.out) hb); have n4_ := Aside0.mk (Kd.R_below (by (with_reducible repeat (first | apply Kd.R_alloc | apply Kd.R_drewN | apply Kd.R_drew)); exact HO481.out) hb); have n5_ := Aside0.mk (Kd.R_below (by (with_reducible repeat (first | apply Kd.R_alloc | apply Kd.R_drewN | apply Kd.R_drew)); exact HO484.out) hb); have n6_ := Aside0.mk (Kd.R_below (by (with_reducible repeat (first | apply Kd.R_alloc | apply Kd.R_drewN | apply Kd.R_drew)); exact HO487.out) hb); have n7_ := Aside0.mk (Kd.R_below (by (with_reducible repeat (first | apply Kd.R_alloc | apply Kd.R_drewN | apply Kd.R_drew)); exact HO490.out) hb); have n8_ := Aside0.mk (blk_below (g := gb462) (o := .cells #[.int .i64 a2_0, .int .i64 a2_1, .int .i64 a2_2] 24 (0, 0)) (by (with_reducible repeat (first | refine blk_drewN ?_ _ | refine blk_drew ?_ | refine blk_alloc ?_ _)); exact BK462.out) hb); have n9_ := Aside0.mk (below_step (by repeat (first | (with_reducible first | exact HB.out | apply below_alloc | apply pw_below_drewN | apply below_drew1 | refine below_set ?_ GE462.out) | exact HB.out)) hb); clear HO_7; clear HO_8; clear HO475; clear HO478; clear HO481; clear HO484; clear HO487; clear HO490; clear BK462; clear HB; have HO_7 := n0_; have HO_8 := n1_; have HO475 := n2_; have HO478 := n3_; have HO481 := n4_; have HO484 := n5_; have HO487 := n6_; have HO490 := n7_; have BK462 := n8_; have HB := n9_; clear n0_ n1_ n2_ n3_ n4_ n5_ n6_ n7_ n8_ n9_; (try clear hb); (try clear hb2); (try clear hk); (try clear hi)))
             repeat (go_quiet (fail); try go_wp2_with (fail))
             go_ret
             exact ⟨by first | rfl | (simp [errW_none, errW_some] <;> rfl) | (simp [*, errW_none, errW_some] <;> rfl), by repeat (first | (with_reducible first | exact HB.out | apply below_alloc | apply pw_below_drewN | apply below_drew1 | refine below_set ?_ GE462.out) | exact HB.out)⟩
           · replace c28 := Bool.eq_false_iff.mpr c28
             subst c28
             have H1 : (some false) = some r := by rw [if_neg (show ¬ (false = true) by decide)] at H; exact H
             clear H
             have H := H1
             clear H1
             obtain rfl := Option.some.inj H
             go_wp2_with (first | (go_at_call 13; (with_reducible refine (past_Read.calls _ _ l0 a1 t473 t476 t479 _ ?side1 ?side2 A25.out).mono ?_); (case side1 => repeat (first | exact (Kd.C_below HR0.out HB.out) | (with_reducible refine Kd.C_alloc ?_ _) | (with_reducible refine Kd.C_drewN ?_ _) | (with_reducible refine Kd.C_drew ?_))); (case side2 => exact HC0.out); rintro e w42 ⟨v474, v477, v480, rfl, ho0, ho1, ho2, hb⟩; have n0_ := Aside0.mk (Kd.R_below (by (with_reducible repeat (first | apply Kd.R_alloc | apply Kd.R_drewN | apply Kd.R_drew)); exact HO_7.out) hb); have n1_ := Aside0.mk (Kd.R_below (by (with_reducible repeat (first | apply Kd.R_alloc | apply Kd.R_drewN | apply Kd.R_drew)); exact HO_8.out) hb); have n2_ := Aside0.mk (Kd.R_lower ho0 (below_size (by repeat (first | (with_reducible first | exact HB.out | apply below_alloc | apply pw_below_drewN | apply below_drew1 | refine below_set ?_ GE462.out) | exact HB.out)))); have n3_ := Aside0.mk (Kd.R_lower (Kd.R_newB ho1 (g := gb462) (o := .cells #[.int .i64 a2_0, .int .i64 a2_1, .int .i64 a2_2] 24 (0, 0)) (by (with_reducible repeat (first | refine blk_drewN ?_ _ | refine blk_drew ?_ | refine blk_alloc ?_ _)); exact BK462.out)) (below_size (by repeat (first | (with_reducible first | exact HB.out | apply below_alloc | apply pw_below_drewN | apply below_drew1 | refine below_set ?_ GE462.out) | exact HB.out)))); have n4_ := Aside0.mk (Kd.R_lower ho2 (below_size (by repeat (first | (with_reducible first | exact HB.out | apply below_alloc | apply pw_below_drewN | apply below_drew1 | refine below_set ?_ GE462.out) | exact HB.out)))); have n5_ := Aside0.mk (blk_below (g := gb462) (o := .cells #[.int .i64 a2_0, .int .i64 a2_1, .int .i64 a2_2] 24 (0, 0)) (by (with_reducible repeat (first | refine blk_drewN ?_ _ | refine blk_drew ?_ | refine blk_alloc ?_ _)); exact BK462.out) hb); have n6_ := Aside0.mk (below_step (by repeat (first | (with_reducible first | exact HB.out | apply below_alloc | apply pw_below_drewN | apply below_drew1 | refine below_set ?_ GE462.out) | exact HB.out)) hb); clear HO_7; clear HO_8; clear BK462; clear HB; have HO_7 := n0_; have HO_8 := n1_; have HO475 := n2_; have HO478 := n3_; have HO481 := n4_; have BK462 := n5_; have HB := n6_; clear n0_ n1_ n2_ n3_ n4_ n5_ n6_; (try clear hb); (try clear hb2); (try clear hk); (try clear hi); (try clear ho0); (try clear ho1); (try clear ho2)) | (go_at_call 14; (with_reducible refine (seneschalref17_Read.calls _ _ l0 a1 t482 t485 t488 _ ?side1 ?side2 A26.out).mono ?_); (case side1 => repeat (first | exact (Kd.C_below HR0.out HB.out) | (with_reducible refine Kd.C_alloc ?_ _) | (with_reducible refine Kd.C_drewN ?_ _) | (with_reducible refine Kd.C_drew ?_))); (case side2 => exact HC0.out); rintro e w43 ⟨v483, v486, v489, rfl, ho0, ho1, ho2, hb⟩; have n0_ := Aside0.mk (Kd.R_below (by (with_reducible repeat (first | apply Kd.R_alloc | apply Kd.R_drewN | apply Kd.R_drew)); exact HO_7.out) hb); have n1_ := Aside0.mk (Kd.R_below (by (with_reducible repeat (first | apply Kd.R_alloc | apply Kd.R_drewN | apply Kd.R_drew)); exact HO_8.out) hb); have n2_ := Aside0.mk (Kd.R_elder' (by (with_reducible repeat (first | apply Kd.R_alloc | apply Kd.R_drewN | apply Kd.R_drew)); exact HO475.out) (Kd.R_base ho0) hb); have n3_ := Aside0.mk (Kd.R_elder' (by (with_reducible repeat (first | apply Kd.R_alloc | apply Kd.R_drewN | apply Kd.R_drew)); exact HO478.out) (Kd.R_base ho1) hb); have n4_ := Aside0.mk (Kd.R_elder' (by (with_reducible repeat (first | apply Kd.R_alloc | apply Kd.R_drewN | apply Kd.R_drew)); exact HO481.out) (Kd.R_base ho2) hb); have n5_ := Aside0.mk (Kd.R_lower (Kd.R_new' ho0 (Kd.R_lt (by (with_reducible repeat (first | apply Kd.R_alloc | apply Kd.R_drewN | apply Kd.R_drew)); exact HO475.out))) (below_size (by repeat (first | (with_reducible first | exact HB.out | apply below_alloc | apply pw_below_drewN | apply below_drew1 | refine below_set ?_ GE462.out) | exact HB.out)))); have n6_ := Aside0.mk (Kd.R_lower (Kd.R_newB (Kd.R_new' ho1 (Kd.R_lt (by (with_reducible repeat (first | apply Kd.R_alloc | apply Kd.R_drewN | apply Kd.R_drew)); exact HO478.out))) (g := gb462) (o := .cells #[.int .i64 a2_0, .int .i64 a2_1, .int .i64 a2_2] 24 (0, 0)) (by (with_reducible repeat (first | refine blk_drewN ?_ _ | refine blk_drew ?_ | refine blk_alloc ?_ _)); exact BK462.out)) (below_size (by repeat (first | (with_reducible first | exact HB.out | apply below_alloc | apply pw_below_drewN | apply below_drew1 | refine below_set ?_ GE462.out) | exact HB.out)))); have n7_ := Aside0.mk (Kd.R_lower (Kd.R_new' ho2 (Kd.R_lt (by (with_reducible repeat (first | apply Kd.R_alloc | apply Kd.R_drewN | apply Kd.R_drew)); exact HO481.out))) (below_size (by repeat (first | (with_reducible first | exact HB.out | apply below_alloc | apply pw_below_drewN | apply below_drew1 | refine below_set ?_ GE462.out) | exact HB.out)))); have n8_ := Aside0.mk (blk_below (g := gb462) (o := .cells #[.int .i64 a2_0, .int .i64 a2_1, .int .i64 a2_2] 24 (0, 0)) (by (with_reducible repeat (first | refine blk_drewN ?_ _ | refine blk_drew ?_ | refine blk_alloc ?_ _)); exact BK462.out) hb); have n9_ := Aside0.mk (below_step (by repeat (first | (with_reducible first | exact HB.out | apply below_alloc | apply pw_below_drewN | apply below_drew1 | refine below_set ?_ GE462.out) | exact HB.out)) hb); clear HO_7; clear HO_8; clear HO475; clear HO478; clear HO481; clear BK462; clear HB; have HO_7 := n0_; have HO_8 := n1_; have HO475 := n2_; have HO478 := n3_; have HO481 := n4_; have HO484 := n5_; have HO487 := n6_; have HO490 := n7_; have BK462 := n8_; have HB := n9_; clear n0_ n1_ n2_ n3_ n4_ n5_ n6_ n7_ n8_ n9_; (try clear hb); (try clear hb2); (try clear hk); (try clear hi); (try clear ho0); (try clear ho1); (try clear ho2); obtain ⟨Ao44, co44, eo44⟩ := Kd.R_slice HO475.out; subst eo44; obtain ⟨Ao45, co45, eo45⟩ := Kd.R_slice HO478.out; subst eo45; obtain ⟨Ao46, co46, eo46⟩ := Kd.R_slice HO481.out; subst eo46; obtain ⟨Ao47, co47, eo47⟩ := Kd.R_slice HO484.out; subst eo47; obtain ⟨Ao48, co48, eo48⟩ := Kd.R_slice HO487.out; subst eo48; obtain ⟨Ao49, co49, eo49⟩ := Kd.R_slice HO490.out; subst eo49) | (go_at_call 12; (with_reducible refine (seneschalref17_Same.calls k1 _ _ t473 _ _ t476 _ _ t479 _ _ t482 _ _ t485 _ _ t488 false _ ?side1 ?side2 ?side3 ?side4 ?side5 ?side6 ?side7 ?side8 ?side9 ?side10 ?side11 ?side12 A27.out).mono ?_); (case side1 => repeat (first | exact (Kd.R_reads' HO475.out).2.2 | (with_reducible refine Kd.C_alloc ?_ _) | (with_reducible refine Kd.C_drewN ?_ _) | (with_reducible refine Kd.C_drew ?_))); (case side2 => exact (Kd.R_reads' HO475.out).2.1); (case side3 => repeat (first | exact (Kd.R_reads' HO478.out).2.2 | (with_reducible refine Kd.C_alloc ?_ _) | (with_reducible refine Kd.C_drewN ?_ _) | (with_reducible refine Kd.C_drew ?_))); (case side4 => exact (Kd.R_reads' HO478.out).2.1); (case side5 => repeat (first | exact (Kd.R_reads' HO481.out).2.2 | (with_reducible refine Kd.C_alloc ?_ _) | (with_reducible refine Kd.C_drewN ?_ _) | (with_reducible refine Kd.C_drew ?_))); (case side6 => exact (Kd.R_reads' HO481.out).2.1); (case side7 => repeat (first | exact (Kd.R_reads' HO484.out).2.2 | (with_reducible refine Kd.C_alloc ?_ _) | (with_reducible refine Kd.C_drewN ?_ _) | (with_reducible refine Kd.C_drew ?_))); (case side8 => exact (Kd.R_reads' HO484.out).2.1); (case side9 => repeat (first | exact (Kd.R_reads' HO487.out).2.2 | (with_reducible refine Kd.C_alloc ?_ _) | (with_reducible refine Kd.C_drewN ?_ _) | (with_reducible refine Kd.C_drew ?_))); (case side10 => exact (Kd.R_reads' HO487.out).2.1); (case side11 => repeat (first | exact (Kd.R_reads' HO490.out).2.2 | (with_reducible refine Kd.C_alloc ?_ _) | (with_reducible refine Kd.C_drewN ?_ _) | (with_reducible refine Kd.C_drew ?_))); (case side12 => exact (Kd.R_reads' HO490.out).2.1); rintro e w50 ⟨rfl, hb⟩; have n0_ := Aside0.mk (Kd.R_below (by (with_reducible repeat (first | apply Kd.R_alloc | apply Kd.R_drewN | apply Kd.R_drew)); exact HO_7.out) hb); have n1_ := Aside0.mk (Kd.R_below (by (with_reducible repeat (first | apply Kd.R_alloc | apply Kd.R_drewN | apply Kd.R_drew)); exact HO_8.out) hb); have n2_ := Aside0.mk (Kd.R_below (by (with_reducible repeat (first | apply Kd.R_alloc | apply Kd.R_drewN | apply Kd.R_drew)); exact HO475.out) hb); have n3_ := Aside0.mk (Kd.R_below (by (with_reducible repeat (first | apply Kd.R_alloc | apply Kd.R_drewN | apply Kd.R_drew)); exact HO478.out) hb); have n4_ := Aside0.mk (Kd.R_below (by (with_reducible repeat (first | apply Kd.R_alloc | apply Kd.R_drewN | apply Kd.R_drew)); exact HO481.out) hb); have n5_ := Aside0.mk (Kd.R_below (by (with_reducible repeat (first | apply Kd.R_alloc | apply Kd.R_drewN | apply Kd.R_drew)); exact HO484.out) hb); have n6_ := Aside0.mk (Kd.R_below (by (with_reducible repeat (first | apply Kd.R_alloc | apply Kd.R_drewN | apply Kd.R_drew)); exact HO487.out) hb); have n7_ := Aside0.mk (Kd.R_below (by (with_reducible repeat (first | apply Kd.R_alloc | apply Kd.R_drewN | apply Kd.R_drew)); exact HO490.out) hb); have n8_ := Aside0.mk (blk_below (g := gb462) (o := .cells #[.int .i64 a2_0, .int .i64 a2_1, .int .i64 a2_2] 24 (0, 0)) (by (with_reducible repeat (first | refine blk_drewN ?_ _ | refine blk_drew ?_ | refine blk_alloc ?_ _)); exact BK462.out) hb); have n9_ := Aside0.mk (below_step (by repeat (first | (with_reducible first | exact HB.out | apply below_alloc | apply pw_below_drewN | apply below_drew1 | refine below_set ?_ GE462.out) | exact HB.out)) hb); clear HO_7; clear HO_8; clear HO475; clear HO478; clear HO481; clear HO484; clear HO487; clear HO490; clear BK462; clear HB; have HO_7 := n0_; have HO_8 := n1_; have HO475 := n2_; have HO478 := n3_; have HO481 := n4_; have HO484 := n5_; have HO487 := n6_; have HO490 := n7_; have BK462 := n8_; have HB := n9_; clear n0_ n1_ n2_ n3_ n4_ n5_ n6_ n7_ n8_ n9_; (try clear hb); (try clear hb2); (try clear hk); (try clear hi)))
             repeat (go_quiet (fail); try go_wp2_with (fail))
             go_ret
             exact ⟨by first | rfl | (simp [errW_none, errW_some] <;> rfl) | (simp [*, errW_none, errW_some] <;> rfl), by repeat (first | (with_reducible first | exact HB.out | apply below_alloc | apply pw_below_drewN | apply below_drew1 | refine below_set ?_ GE462.out) | exact HB.out)⟩
     · rw [if_neg c12] at H
       have c12b0 : ((t465.length : Int) == (t468.length : Int)) = false := beq_eq_false_iff_ne.mpr c12
       have c12b1 : ((t465.length : Int) != (t468.length : Int)) = true := bne_iff_ne.mpr c12
       have c12b2 : (t465.length == t468.length) = false := by first | simpa using c12 | (simp at c12 ⊢; omega)
       obtain rfl := Option.some.inj H
       go_enter Try.func3, Try.ntmps3
       go_wp2_with (first | ((with_reducible refine gate_dst (N := 5) rfl ?_); refine box_event ?hg (N := 5) ?hd (cs := #[.int .i64 a2_0, .int .i64 a2_1, .int .i64 a2_2]) (t := 24) ?hr ?_; (case hd => rfl); (case hg => rfl); (case hr => first | (go_simp; done) | (go_simp; rfl)); intro gb462 hg w51 hbox hb; have n0_ := Aside0.mk (below_step (by repeat (first | (with_reducible first | exact HB.out | apply below_alloc | apply pw_below_drewN | apply below_drew1) | exact HB.out)) hb); have n1_ := Aside0.mk (hbox); have n2_ := Aside0.mk ((by rw [hg]; exact (below_size (by repeat (first | (with_reducible first | exact HB.out | apply below_alloc | apply pw_below_drewN | apply below_drew1) | exact HB.out))) : w.heap.size ≤ gb462)); have n3_ := Aside0.mk ((by rw [hg]; exact (below_size (by repeat (first | (with_reducible first | exact HB.out | apply below_alloc | apply pw_below_drewN | apply below_drew1) | exact HB.out))) : w.heap.size ≤ gb462)); clear HB; have HB := n0_; have BK462 := n1_; have GW462 := n2_; have GE462 := n3_; clear n0_ n1_ n2_ n3_; clear hb hbox hg) | (go_at_call 8; (with_reducible refine (seneschallaw17_awake.calls  true _ A4.out).mono ?_); rintro e w52 ⟨rfl, hb⟩; have n0_ := Aside0.mk (blk_below (g := gb462) (o := .cells #[.int .i64 a2_0, .int .i64 a2_1, .int .i64 a2_2] 24 (0, 0)) (by (with_reducible repeat (first | refine blk_drewN ?_ _ | refine blk_drew ?_ | refine blk_alloc ?_ _)); exact BK462.out) hb); have n1_ := Aside0.mk (below_step (by repeat (first | (with_reducible first | exact HB.out | apply below_alloc | apply pw_below_drewN | apply below_drew1 | refine below_set ?_ GE462.out) | exact HB.out)) hb); clear BK462; clear HB; have BK462 := n0_; have HB := n1_; clear n0_ n1_; (try clear hb); (try clear hb2); (try clear hk); (try clear hi)) | (go_at_call 9; (with_reducible refine (seneschallaw17_great.calls k _ _ l0 false _ ?side1 ?side2 A6.out).mono ?_); (case side1 => repeat (first | exact (Kd.C_below HR0.out HB.out) | (with_reducible refine Kd.C_alloc ?_ _) | (with_reducible refine Kd.C_drewN ?_ _) | (with_reducible refine Kd.C_drew ?_))); (case side2 => exact HC0.out); rintro e w' ⟨rfl, ⟨nd, rfl⟩⟩; (try first | exact ⟨rfl, _, World.drewN_drewN _ _ _⟩ | exact ⟨rfl, _, Eq.trans (World.drewN_drewN _ _ _) (congrArg (World.drewN _) (Nat.add_assoc _ _ _))⟩); have hcz53_0 : w52.cell? ⟨gb462, 0, none⟩ = some (.int .i64 a2_0) := (blk_cell BK462.out 0).trans rfl; have hcz53_1 : w52.cell? ⟨gb462, 1, none⟩ = some (.int .i64 a2_1) := (blk_cell BK462.out 1).trans rfl; have hcz53_2 : w52.cell? ⟨gb462, 2, none⟩ = some (.int .i64 a2_2) := (blk_cell BK462.out 2).trans rfl; have hfz53_0 := blk_frozen BK462.out 0; have hfz53_1 := blk_frozen BK462.out 1; have hfz53_2 := blk_frozen BK462.out 2) | (go_at_call 10; (with_reducible refine (past_Of.calls k _ _ l0 a2_0 a2_1 a2_2 t465 _ ?side1 ?side2 A10.out).mono ?_); (case side1 => repeat (first | exact (Kd.C_below HR0.out (by repeat (first | (with_reducible first | exact HB.out | apply below_alloc | apply pw_below_drewN | apply below_drew1 | refine below_set ?_ GE462.out) | exact HB.out))) | (with_reducible refine Kd.C_alloc ?_ _) | (with_reducible refine Kd.C_drewN ?_ _) | (with_reducible refine Kd.C_drew ?_))); (case side2 => exact HC0.out); rintro e w54 ⟨v466, rfl, ho0, hb⟩; have n0_ := Aside0.mk (Kd.R_lower ho0 (below_size (by repeat (first | (with_reducible first | exact HB.out | apply below_alloc | apply pw_below_drewN | apply below_drew1 | refine below_set ?_ GE462.out) | exact HB.out)))); have n1_ := Aside0.mk (blk_below (g := gb462) (o := .cells #[.int .i64 a2_0, .int .i64 a2_1, .int .i64 a2_2] 24 (0, 0)) (by (with_reducible repeat (first | refine blk_drewN ?_ _ | refine blk_drew ?_ | refine blk_alloc ?_ _)); exact BK462.out) hb); have n2_ := Aside0.mk (below_step (by repeat (first | (with_reducible first | exact HB.out | apply below_alloc | apply pw_below_drewN | apply below_drew1 | refine below_set ?_ GE462.out) | exact HB.out)) hb); clear BK462; clear HB; have HO467 := n0_; have BK462 := n1_; have HB := n2_; clear n0_ n1_ n2_; (try clear hb); (try clear hb2); (try clear hk); (try clear hi); (try clear ho0); have hcz55_0 : w54.cell? ⟨gb462, 0, none⟩ = some (.int .i64 a2_0) := (blk_cell BK462.out 0).trans rfl; have hcz55_1 : w54.cell? ⟨gb462, 1, none⟩ = some (.int .i64 a2_1) := (blk_cell BK462.out 1).trans rfl; have hcz55_2 : w54.cell? ⟨gb462, 2, none⟩ = some (.int .i64 a2_2) := (blk_cell BK462.out 2).trans rfl; have hfz55_0 := blk_frozen BK462.out 0; have hfz55_1 := blk_frozen BK462.out 1; have hfz55_2 := blk_frozen BK462.out 2) | (go_at_call 11; (with_reducible refine (seneschalref17_Of.calls k _ _ l0 a2_0 a2_1 a2_2 t468 _ ?side1 ?side2 A11.out).mono ?_); (case side1 => repeat (first | exact (Kd.C_below HR0.out HB.out) | (with_reducible refine Kd.C_alloc ?_ _) | (with_reducible refine Kd.C_drewN ?_ _) | (with_reducible refine Kd.C_drew ?_))); (case side2 => exact HC0.out); rintro e w56 ⟨v469, rfl, ho0, hb⟩; have n0_ := Aside0.mk (Kd.R_elder' (by (with_reducible repeat (first | apply Kd.R_alloc | apply Kd.R_drewN | apply Kd.R_drew)); exact HO467.out) (Kd.R_base ho0) hb); have n1_ := Aside0.mk (Kd.R_lower (Kd.R_new' ho0 (Kd.R_lt (by (with_reducible repeat (first | apply Kd.R_alloc | apply Kd.R_drewN | apply Kd.R_drew)); exact HO467.out))) (below_size (by repeat (first | (with_reducible first | exact HB.out | apply below_alloc | apply pw_below_drewN | apply below_drew1 | refine below_set ?_ GE462.out) | exact HB.out)))); have n2_ := Aside0.mk (blk_below (g := gb462) (o := .cells #[.int .i64 a2_0, .int .i64 a2_1, .int .i64 a2_2] 24 (0, 0)) (by (with_reducible repeat (first | refine blk_drewN ?_ _ | refine blk_drew ?_ | refine blk_alloc ?_ _)); exact BK462.out) hb); have n3_ := Aside0.mk (below_step (by repeat (first | (with_reducible first | exact HB.out | apply below_alloc | apply pw_below_drewN | apply below_drew1 | refine below_set ?_ GE462.out) | exact HB.out)) hb); clear HO467; clear BK462; clear HB; have HO467 := n0_; have HO470 := n1_; have BK462 := n2_; have HB := n3_; clear n0_ n1_ n2_ n3_; (try clear hb); (try clear hb2); (try clear hk); (try clear hi); (try clear ho0); obtain ⟨Ao57, co57, eo57⟩ := Kd.R_slice HO467.out; subst eo57; obtain ⟨Ao58, co58, eo58⟩ := Kd.R_slice HO470.out; subst eo58))
       repeat (go_quiet (fail); try go_wp2_with (fail))
       go_ret
       exact ⟨by first | rfl | (simp [errW_none, errW_some] <;> rfl) | (simp [*, errW_none, errW_some] <;> rfl), by repeat (first | (with_reducible first | exact HB.out | apply below_alloc | apply pw_below_drewN | apply below_drew1 | refine below_set ?_ GE462.out) | exact HB.out)⟩
 · replace c5 := Bool.eq_false_iff.mpr c5
   subst c5
   have H1 : (some false) = some r := by rw [if_neg (show ¬ (false = true) by decide)] at H; exact H
   clear H
   have H := H1
   clear H1
   obtain rfl := Option.some.inj H
   go_enter Try.func3, Try.ntmps3
   go_wp2_with (first | ((with_reducible refine gate_dst (N := 5) rfl ?_); refine box_event ?hg (N := 5) ?hd (cs := #[.int .i64 a2_0, .int .i64 a2_1, .int .i64 a2_2]) (t := 24) ?hr ?_; (case hd => rfl); (case hg => rfl); (case hr => first | (go_simp; done) | (go_simp; rfl)); intro gb462 hg w59 hbox hb; have n0_ := Aside0.mk (below_step (by repeat (first | (with_reducible first | exact HB.out | apply below_alloc | apply pw_below_drewN | apply below_drew1) | exact HB.out)) hb); have n1_ := Aside0.mk (hbox); have n2_ := Aside0.mk ((by rw [hg]; exact (below_size (by repeat (first | (with_reducible first | exact HB.out | apply below_alloc | apply pw_below_drewN | apply below_drew1) | exact HB.out))) : w.heap.size ≤ gb462)); have n3_ := Aside0.mk ((by rw [hg]; exact (below_size (by repeat (first | (with_reducible first | exact HB.out | apply below_alloc | apply pw_below_drewN | apply below_drew1) | exact HB.out))) : w.heap.size ≤ gb462)); clear HB; have HB := n0_; have BK462 := n1_; have GW462 := n2_; have GE462 := n3_; clear n0_ n1_ n2_ n3_; clear hb hbox hg) | (go_at_call 8; (with_reducible refine (seneschallaw17_awake.calls  false _ A4.out).mono ?_); rintro e w60 ⟨rfl, hb⟩; have n0_ := Aside0.mk (blk_below (g := gb462) (o := .cells #[.int .i64 a2_0, .int .i64 a2_1, .int .i64 a2_2] 24 (0, 0)) (by (with_reducible repeat (first | refine blk_drewN ?_ _ | refine blk_drew ?_ | refine blk_alloc ?_ _)); exact BK462.out) hb); have n1_ := Aside0.mk (below_step (by repeat (first | (with_reducible first | exact HB.out | apply below_alloc | apply pw_below_drewN | apply below_drew1 | refine below_set ?_ GE462.out) | exact HB.out)) hb); clear BK462; clear HB; have BK462 := n0_; have HB := n1_; clear n0_ n1_; (try clear hb); (try clear hb2); (try clear hk); (try clear hi)))
   repeat (go_quiet (fail); try go_wp2_with (fail))
   go_ret
   exact ⟨by first | rfl | (simp [errW_none, errW_some] <;> rfl) | (simp [*, errW_none, errW_some] <;> rfl), by repeat (first | (with_reducible first | exact HB.out | apply below_alloc | apply pw_below_drewN | apply below_drew1 | refine below_set ?_ GE462.out) | exact HB.out)⟩

end Go.Proofs.Ytianblmceohmnaa.PAll
