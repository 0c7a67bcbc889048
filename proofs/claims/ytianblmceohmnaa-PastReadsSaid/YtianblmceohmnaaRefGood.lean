/- The reference's Good: the same entries as the program's. -/
import Derived.Test.YtianblmceohmnaaEnded
import Derived.Test.YtianblmceohmnaaPAllx2
import Derived.Test.YtianblmceohmnaaPAllx20
namespace Go.Proofs.Ytianblmceohmnaa.Hand
open Go.RowKit Go.Proofs.Ytianblmceohmnaa.PAll Go.Proofs.YtianblmceohmnaaW.PrintWords Go.Proofs.YtianblmceohmnaaW.PrintLast Go.Proofs.YtianblmceohmnaaW.PrintMore
set_option linter.unusedVariables false
set_option linter.unusedSimpArgs false

/-- Either way of a test. -/
theorem bc {G : Prop} (c : Bool) (h1 : c = true → G) (h2 : c = false → G) : G := by
  cases c
  · exact h2 rfl
  · exact h1 rfl
theorem known_ref (a b c : Int) : seneschalref04_Known.f a b c = some (decide ((1 ≤ a ∧ a ≤ 8) ∧ (1 ≤ b ∧ b ≤ 1073741824) ∧ 1 ≤ c ∧ c ≤ 1073741824)) := by
  unfold seneschalref04_Known.f
  repeat' split
  all_goals (refine congrArg some ?_; rw [eq_comm]; first | (rw [decide_eq_decide]; omega) | (rw [decide_eq_false_iff_not]; omega))
theorem slot_ref (a : Bool) (b : ByteArray) : seneschalref04_slot.f a b = some (decide ((b.size : Int) ≤ 200) && (a || b.toList == [])) := by
  unfold seneschalref04_slot.f
  split
  · rename_i h
    rw [decide_eq_true h]
    cases a <;> simp
  · rename_i h
    rw [decide_eq_false h]
    rfl
theorem known_own (a b c : Int) : entry_Known.f a b c = some (decide ((1 ≤ a ∧ a ≤ 8) ∧ (1 ≤ b ∧ b ≤ 1073741824) ∧ 1 ≤ c ∧ c ≤ 1073741824)) := by
  unfold entry_Known.f entry_within.f
  by_cases h1 : 1 ≤ a <;> by_cases h2 : a ≤ 8 <;> by_cases h3 : 1 ≤ b <;> by_cases h4 : b ≤ 1073741824 <;> by_cases h5 : 1 ≤ c <;> by_cases h6 : c ≤ 1073741824 <;> simp [h1, h2, h3, h4, h5, h6]
theorem slot_own (a : Bool) (b : ByteArray) : entry_isSlot.f a b = some (decide ((b.size : Int) ≤ 200) && (a || b.toList == [])) := slot_ref a b
theorem within_own (a b c : Int) : entry_within.f a b c = some (decide (b ≤ a) && decide (a ≤ c)) := by
  unfold entry_within.f
  by_cases h1 : b ≤ a <;> simp [h1]
theorem empty_list : (⟨#[]⟩ : ByteArray).toList = [] := by
  unfold ByteArray.toList
  rw [ByteArray.toList.loop]
  rfl
/-- Which entries are good, said plainly. -/
def goodB (x : S31) : Bool :=
  decide ((1 ≤ x.f1.f0 ∧ x.f1.f0 ≤ 8) ∧ (1 ≤ x.f1.f1 ∧ x.f1.f1 ≤ 1073741824) ∧ 1 ≤ x.f1.f2 ∧ x.f1.f2 ≤ 1073741824) && !decide (x.f2 < 1) && !decide (1099511627776 < x.f2) && !decide (x.f3 < 0) && !decide (x.f2 ≤ x.f3) &&
    (if (x.f0 == 1) || (x.f0 == 2) then
      !decide (x.f4 < 0) && !decide (1023 < x.f4) && !decide (x.f5 < 0) && !decide (31 < x.f5) && (decide ((x.f6.f1.size : Int) ≤ 200) && (x.f6.f0 || x.f6.f1.toList == [])) && (decide ((x.f7.f1.size : Int) ≤ 200) && (x.f7.f0 || x.f7.f1.toList == [])) &&
        ((x.f8 == 0) || ((x.f0 == 2) && decide (0 < x.f8) && decide (x.f8 ≤ x.f3)))
    else if (x.f0 == 3) || (x.f0 == 4) then
      (x.f4 == 0) && (x.f5 == 0) && (x.f8 == 0) && ((x.f6.f0 == false) && (x.f6.f1.toList == [])) && ((x.f7.f0 == false) && (x.f7.f1.toList == []))
    else false)

def chB (x : S31) : Bool := (decide (0 ≤ x.f4) && decide (x.f4 ≤ 1023)) && (decide (0 ≤ x.f5) && decide (x.f5 ≤ 31)) && (decide ((x.f6.f1.size : Int) ≤ 200) && (x.f6.f0 || x.f6.f1.toList == [])) && (decide ((x.f7.f1.size : Int) ≤ 200) && (x.f7.f0 || x.f7.f1.toList == []))
def kindB (x : S31) (s : Bool) : Bool :=
  if x.f0 = 1 then s && (x.f8 == 0) else if x.f0 = 2 then s && (decide (0 ≤ x.f8) && decide (x.f8 ≤ x.f3)) else
    ((x.f0 == 3) || (x.f0 == 4)) && ((x.f4 == 0) && ((x.f5 == 0) && (((x.f6.f0 == false) && (x.f6.f1.toList == [])) && (((x.f7.f0 == false) && (x.f7.f1.toList == [])) && (x.f8 == 0)))))
theorem j1_own (k : Nat) (s : Bool) (x : S31) : entry_Good.j1 (k + 2) s x.f0 x.f1.f0 x.f1.f1 x.f1.f2 x.f2 x.f3 x.f4 x.f5 x.f6.f0 x.f6.f1 x.f7.f0 x.f7.f1 x.f8 = some (kindB x s) := by
  have j2 : ∀ b, entry_Good.j2 (k + 1) b x.f0 x.f1.f0 x.f1.f1 x.f1.f2 x.f2 x.f3 x.f4 x.f5 x.f6.f0 x.f6.f1 x.f7.f0 x.f7.f1 x.f8 = some (b && ((x.f4 == 0) && ((x.f5 == 0) && (((x.f6.f0 == false) && (x.f6.f1.toList == [])) && (((x.f7.f0 == false) && (x.f7.f1.toList == [])) && (x.f8 == 0)))))) := by
    intro b
    rw [entry_Good.j2]
    cases b with
    | false => simp
    | true =>
      rw [if_pos rfl]
      unfold entry_plain.f
      simp only [Option.bind_some, beq_self_eq_true, Bool.true_and]
      rw [empty_list]
  rw [entry_Good.j1]
  unfold kindB
  split
  · cases s <;> simp
  · split
    · rw [within_own]
      cases s <;> simp
    · split
      · rename_i h
        rw [j2, h]
        simp
      · rename_i h
        rw [j2]
        have : (x.f0 == 3) = false := by simpa using h
        rw [this, Bool.false_or]
theorem j0_own (k : Nat) (b : Bool) (x : S31) : entry_Good.j0 (k + 3) b x.f0 x.f1.f0 x.f1.f1 x.f1.f2 x.f2 x.f3 x.f4 x.f5 x.f6.f0 x.f6.f1 x.f7.f0 x.f7.f1 x.f8 = some (!b && kindB x (chB x)) := by
  rw [entry_Good.j0]
  cases b with
  | true => rfl
  | false =>
    rw [if_neg (by simp), within_own, within_own, slot_own, slot_own]
    simp only [Option.bind_some, Bool.not_false, Bool.true_and]
    unfold chB
    cases (decide (0 ≤ x.f4) && decide (x.f4 ≤ 1023)) with
    | false => rw [if_neg (by simp), j1_own]; simp
    | true =>
      rw [if_pos rfl]
      cases (decide (0 ≤ x.f5) && decide (x.f5 ≤ 31)) with
      | false => rw [if_neg (by simp), j1_own]; simp
      | true =>
        rw [if_pos rfl]
        cases (decide ((x.f6.f1.size : Int) ≤ 200) && (x.f6.f0 || x.f6.f1.toList == [])) with
        | false => rw [if_neg (by simp), j1_own]; simp
        | true => rw [if_pos rfl, j1_own]; simp
theorem good_own (x : S31) : good x = (decide ((1 ≤ x.f1.f0 ∧ x.f1.f0 ≤ 8) ∧ (1 ≤ x.f1.f1 ∧ x.f1.f1 ≤ 1073741824) ∧ 1 ≤ x.f1.f2 ∧ x.f1.f2 ≤ 1073741824) && (decide (1 ≤ x.f2) && decide (x.f2 ≤ 1099511627776)) && (decide (0 ≤ x.f3) && decide (x.f3 ≤ wrap64 (x.f2 - 1))) && kindB x (chB x)) := by
  have h := good_some x
  unfold entry_Good.f at h
  rw [known_own, within_own, within_own] at h
  simp only [Option.bind_some] at h
  refine (Option.some.inj ?_ : _)
  rw [← h]
  cases decide ((1 ≤ x.f1.f0 ∧ x.f1.f0 ≤ 8) ∧ (1 ≤ x.f1.f1 ∧ x.f1.f1 ≤ 1073741824) ∧ 1 ≤ x.f1.f2 ∧ x.f1.f2 ≤ 1073741824) with
  | false => rw [if_neg (by simp), j0_own]; simp
  | true =>
    rw [if_pos rfl]
    cases (decide (1 ≤ x.f2) && decide (x.f2 ≤ 1099511627776)) with
    | false => rw [if_neg (by simp), j0_own]; simp
    | true => rw [if_pos rfl, j0_own]; simp
theorem good_B (x : S31) : good x = goodB x := by
  rw [good_own, goodB]
  cases decide ((1 ≤ x.f1.f0 ∧ x.f1.f0 ≤ 8) ∧ (1 ≤ x.f1.f1 ∧ x.f1.f1 ≤ 1073741824) ∧ 1 ≤ x.f1.f2 ∧ x.f1.f2 ≤ 1073741824) with
  | false => simp
  | true =>
    by_cases h1 : x.f2 < 1
    · simp [h1, show ¬ 1 ≤ x.f2 by omega]
    by_cases h2 : 1099511627776 < x.f2
    · simp [h1, h2, show ¬ x.f2 ≤ 1099511627776 by omega]
    by_cases h3 : x.f3 < 0
    · simp [h3, show ¬ 0 ≤ x.f3 by omega]
    have hw : wrap64 (x.f2 - 1) = x.f2 - 1 := by unfold wrap64; omega
    rw [hw]
    by_cases h4 : x.f2 ≤ x.f3
    · simp [h4, show ¬ x.f3 ≤ x.f2 - 1 by omega]
    rw [decide_eq_false h1, decide_eq_false h2, decide_eq_false h3, decide_eq_false h4, decide_eq_true (show 1 ≤ x.f2 by omega), decide_eq_true (show x.f2 ≤ 1099511627776 by omega), decide_eq_true (show 0 ≤ x.f3 by omega), decide_eq_true (show x.f3 ≤ x.f2 - 1 by omega)]
    simp only [Bool.not_false, Bool.and_true, Bool.true_and]
    have e1 : decide (0 ≤ x.f4) = !decide (x.f4 < 0) := by rw [Bool.eq_iff_iff]; simp
    have e2 : decide (x.f4 ≤ 1023) = !decide (1023 < x.f4) := by rw [Bool.eq_iff_iff]; simp
    have e3 : decide (0 ≤ x.f5) = !decide (x.f5 < 0) := by rw [Bool.eq_iff_iff]; simp
    have e4 : decide (x.f5 ≤ 31) = !decide (31 < x.f5) := by rw [Bool.eq_iff_iff]; simp
    unfold kindB chB
    rw [e1, e2, e3, e4]
    generalize (decide ((x.f6.f1.size : Int) ≤ 200) && (x.f6.f0 || x.f6.f1.toList == [])) = s6
    generalize (decide ((x.f7.f1.size : Int) ≤ 200) && (x.f7.f0 || x.f7.f1.toList == [])) = s7
    generalize ((x.f6.f0 == false) && (x.f6.f1.toList == [])) = t6
    generalize ((x.f7.f0 == false) && (x.f7.f1.toList == [])) = t7
    generalize decide (x.f4 < 0) = q1
    generalize decide (1023 < x.f4) = q2
    generalize decide (x.f5 < 0) = q3
    generalize decide (31 < x.f5) = q4
    by_cases k1 : x.f0 = 1
    · rw [if_pos k1, k1]
      cases q1 <;> cases q2 <;> cases q3 <;> cases q4 <;> cases s6 <;> cases s7 <;> simp
    by_cases k2 : x.f0 = 2
    · rw [if_neg k1, if_pos k2, k2]
      have : (decide (0 ≤ x.f8) && decide (x.f8 ≤ x.f3)) = ((x.f8 == 0) || decide (0 < x.f8) && decide (x.f8 ≤ x.f3)) := by
        rw [Bool.eq_iff_iff]
        simp
        omega
      rw [this]
      cases q1 <;> cases q2 <;> cases q3 <;> cases q4 <;> cases s6 <;> cases s7 <;> simp
    have k1' : (x.f0 == 1) = false := by simpa using k1
    have k2' : (x.f0 == 2) = false := by simpa using k2
    rw [if_neg k1, if_neg k2, k1', k2', Bool.or_self, if_neg (by simp)]
    cases ((x.f0 == 3) || (x.f0 == 4)) with
    | false => simp
    | true =>
      simp only [Bool.true_and, if_true]
      generalize (x.f4 == 0) = p1
      generalize (x.f5 == 0) = p2
      generalize (x.f8 == 0) = p3
      cases p1 <;> cases p2 <;> cases p3 <;> cases t6 <;> cases t7 <;> rfl

theorem size29 : (Try.prog.info? 29).map (·.size) = some 2 := by kernel_rfl
theorem one29 : ∀ q ∈ (#[Value.bool false, .string ⟨#[]⟩] : Array Value).toList, q.oneCell' = true := by
  intro q hq
  simp at hq
  rcases hq with rfl | rfl <;> rfl
theorem not_both {G : Prop} {f : Int} (h1 : (f == 1) = true) (h2 : (f == 2) = true) : G := by
  rw [beq_iff_eq] at h1 h2
  omega
attribute [local go_sem high] eqA29
set_option maxHeartbeats 16000000 in
set_option maxRecDepth 100000 in
theorem refGood_calls (x : S31) (w : World) : Calls Try.prog 20 #[val31 x] w fun e w' => e = .returned (.bool (good x)) ∧ Below w.heap.size w w' := by
  rw [good_B]
  have hk := known_ref x.f1.f0 x.f1.f1 x.f1.f2
  have h6 := slot_ref x.f6.f0 x.f6.f1
  have h7 := slot_ref x.f7.f0 x.f7.f1
  unfold goodB
  obtain ⟨f0, ⟨f10, f11, f12⟩, f2, f3, f4, f5, ⟨b6, s6⟩, ⟨b7, s7⟩, f8⟩ := x
  dsimp only at hk h6 h7 ⊢
  generalize decide ((1 ≤ f10 ∧ f10 ≤ 8) ∧ (1 ≤ f11 ∧ f11 ≤ 1073741824) ∧ 1 ≤ f12 ∧ f12 ≤ 1073741824) = kn at *
  generalize (decide ((s6.size : Int) ≤ 200) && (b6 || s6.toList == [])) = q6 at *
  generalize (decide ((s7.size : Int) ≤ 200) && (b7 || s7.toList == [])) = q7 at *
  have u31 := Try.underlying31
  have u29 := Try.underlying29
  have u24 := Try.underlying24
  have hkc := fun W => seneschalref04_Known.calls f10 f11 f12 kn W hk
  have h6c := fun W => seneschalref04_slot.calls b6 s6 q6 W h6
  have h7c := fun W => seneschalref04_slot.calls b7 s7 q7 W h7
  clear hk h6 h7
  refine bc (kn) (fun n0 => bc (decide (f2 < 1)) (fun n1 => ?_) (fun n1 => bc (decide (1099511627776 < f2)) (fun n2 => ?_) (fun n2 => bc (decide (f3 < 0)) (fun n3 => ?_) (fun n3 => bc (decide (f2 ≤ f3)) (fun n4 => ?_) (fun n4 => bc (f0 == 1) (fun n10 => bc (decide (f4 < 0)) (fun n20 => ?_) (fun n20 => bc (decide (1023 < f4)) (fun n21 => ?_) (fun n21 => bc (decide (f5 < 0)) (fun n22 => ?_) (fun n22 => bc (decide (31 < f5)) (fun n23 => ?_) (fun n23 => bc (q6) (fun n24 => bc (q7) (fun n25 => bc (f8 == 0) (fun n26 => ?_) (fun n26 => bc (f0 == 2) (fun n27 => not_both n10 n27) (fun n27 => ?_))) (fun n25 => ?_)) (fun n24 => ?_)))))) (fun n10 => bc (f0 == 2) (fun n11 => bc (decide (f4 < 0)) (fun n20 => ?_) (fun n20 => bc (decide (1023 < f4)) (fun n21 => ?_) (fun n21 => bc (decide (f5 < 0)) (fun n22 => ?_) (fun n22 => bc (decide (31 < f5)) (fun n23 => ?_) (fun n23 => bc (q6) (fun n24 => bc (q7) (fun n25 => bc (f8 == 0) (fun n26 => ?_) (fun n26 => bc (decide (0 < f8)) (fun n27 => bc (decide (f8 ≤ f3)) (fun n28 => ?_) (fun n28 => ?_)) (fun n27 => ?_))) (fun n25 => ?_)) (fun n24 => ?_)))))) (fun n11 => bc (f0 == 3) (fun n12 => bc (f4 == 0) (fun n20 => bc (f5 == 0) (fun n21 => bc (f8 == 0) (fun n22 => bc (b6 == false && s6.toList == []) (fun n23 => bc (b7 == false && s7.toList == []) (fun n24 => ?_) (fun n24 => ?_)) (fun n23 => ?_)) (fun n22 => ?_)) (fun n21 => ?_)) (fun n20 => ?_)) (fun n12 => bc (f0 == 4) (fun n13 => bc (f4 == 0) (fun n20 => bc (f5 == 0) (fun n21 => bc (f8 == 0) (fun n22 => bc (b6 == false && s6.toList == []) (fun n23 => bc (b7 == false && s7.toList == []) (fun n24 => ?_) (fun n24 => ?_)) (fun n23 => ?_)) (fun n22 => ?_)) (fun n21 => ?_)) (fun n20 => ?_)) (fun n13 => ?_))))))))) (fun n0 => ?_)
  all_goals (
    go_enter Try.func20, Try.ntmps20
    go_wp2_with (first
      | ((with_reducible refine gate_dst (N := 1) rfl ?_); refine box_event ?hg (N := 1) ?hd (cs := #[.int .i64 f0, .int .i64 f10, .int .i64 f11, .int .i64 f12, .int .i64 f2, .int .i64 f3, .int .i64 f4, .int .i64 f5, .bool b6, .string s6, .bool b7, .string s7, .int .i64 f8]) (t := 31) ?hr ?_; (case hd => rfl); (case hg => rfl); (case hr => first | (go_simp; done) | (go_simp; rfl)); intro gb hg w3 hbox hb; obtain ⟨d0, d1, d2, d3, d4, d5, d6, d7, d8, d9, d10, d11, d12⟩ := box31 (x := ⟨f0, ⟨f10, f11, f12⟩, f2, f3, f4, f5, ⟨b6, s6⟩, ⟨b7, s7⟩, f8⟩) rfl hbox; dsimp only at d0 d1 d2 d3 d4 d5 d6 d7 d8 d9 d10 d11 d12; have BX := Aside0.mk hbox; have HB := Aside0.mk hb; clear hbox hb hg)
      | (go_at_call 36; (first | refine (hkc _).mono ?_); rintro e w5 ⟨rfl, hb5⟩; have HB5 := Aside0.mk (below_step HB.out hb5); have BX5 := Aside0.mk (blk_below BX.out hb5); clear HB BX d0 d1 d2 d3 d4 d5 d6 d7 d8 d9 d10 d11 d12 hb5; have HB := HB5; have BX := BX5; clear HB5 BX5; obtain ⟨d0, d1, d2, d3, d4, d5, d6, d7, d8, d9, d10, d11, d12⟩ := box31 (x := ⟨f0, ⟨f10, f11, f12⟩, f2, f3, f4, f5, ⟨b6, s6⟩, ⟨b7, s7⟩, f8⟩) rfl BX.out; dsimp only at d0 d1 d2 d3 d4 d5 d6 d7 d8 d9 d10 d11 d12)
      | (go_at_call 37; (first | (with_reducible refine (h6c _).mono ?_) | (with_reducible refine (h7c _).mono ?_)); rintro e w5 ⟨rfl, hb5⟩; have HB5 := Aside0.mk (below_step HB.out hb5); have BX5 := Aside0.mk (blk_below BX.out hb5); clear HB BX d0 d1 d2 d3 d4 d5 d6 d7 d8 d9 d10 d11 d12 hb5; have HB := HB5; have BX := BX5; clear HB5 BX5; obtain ⟨d0, d1, d2, d3, d4, d5, d6, d7, d8, d9, d10, d11, d12⟩ := box31 (x := ⟨f0, ⟨f10, f11, f12⟩, f2, f3, f4, f5, ⟨b6, s6⟩, ⟨b7, s7⟩, f8⟩) rfl BX.out; dsimp only at d0 d1 d2 d3 d4 d5 d6 d7 d8 d9 d10 d11 d12)
      | ((with_reducible refine gate_dst (N := 3) rfl ?_); refine box_event ?hg (N := 3) ?hd (cs := #[.bool false, .string ⟨#[]⟩]) (t := 29) ?hr ?_; (case hd => rfl); (case hg => rfl); (case hr => first | (go_simp; done) | (go_simp; rfl)); intro nb hg9 w9 hbox9 hb9; have HB9 := Aside0.mk (below_step HB.out hb9); have BX9 := Aside0.mk (blk_below BX.out hb9); have HN := Aside0.mk (show w.heap.size ≤ nb ∧ gb < nb by rw [hg9]; exact ⟨below_size HB.out, blk_lt BX.out⟩); clear HB BX d0 d1 d2 d3 d4 d5 d6 d7 d8 d9 d10 d11 d12 hb9 hg9)
      | (have hbox8 := hbox9; refine store_box rfl rfl rfl rfl (seg := #[.bool false, .string ⟨#[]⟩]) rfl hbox8 rfl size29 one29 ?_; intro w10 hbox10 hgr10 hsz hbel; have HB := Aside0.mk (HB9.out.trans (hbel _ HN.out.1)); have BX := Aside0.mk (blk_grown BX9.out hgr10 (fun e => Nat.ne_of_lt HN.out.2 (by injection e))); have e0 : w10.cell? ⟨nb, 0, none⟩ = some (.bool false) := (blk_cell hbox10 0).trans rfl; have e1 : w10.cell? ⟨nb, 1, none⟩ = some (.string ⟨#[]⟩) := (blk_cell hbox10 1).trans rfl; clear hbox8 hbox9 hbox10 hgr10 hsz hbel BX9 HB9; obtain ⟨d0, d1, d2, d3, d4, d5, d6, d7, d8, d9, d10, d11, d12⟩ := box31 (x := ⟨f0, ⟨f10, f11, f12⟩, f2, f3, f4, f5, ⟨b6, s6⟩, ⟨b7, s7⟩, f8⟩) rfl BX.out; dsimp only at d0 d1 d2 d3 d4 d5 d6 d7 d8 d9 d10 d11 d12))
    all_goals (go_ret; exact ⟨by simp [*], HB.out⟩))
end Go.Proofs.Ytianblmceohmnaa.Hand

namespace Go.Proofs.Ytianblmceohmnaa.PAll
open Go.RowKit
def seneschalref04_Good.f (a0_0 : Int) (a0_1 : Int) (a0_2 : Int) (a0_3 : Int) (a0_4 : Int) (a0_5 : Int) (a0_6 : Int) (a0_7 : Int) (a0_8 : Bool) (a0_9 : ByteArray) (a0_10 : Bool) (a0_11 : ByteArray) (a0_12 : Int) : Option Bool := some (Go.Proofs.Ytianblmceohmnaa.Hand.good ⟨a0_0, ⟨a0_1, a0_2, a0_3⟩, a0_4, a0_5, a0_6, a0_7, ⟨a0_8, a0_9⟩, ⟨a0_10, a0_11⟩, a0_12⟩)
theorem seneschalref04_Good.calls (a0_0 : Int) (a0_1 : Int) (a0_2 : Int) (a0_3 : Int) (a0_4 : Int) (a0_5 : Int) (a0_6 : Int) (a0_7 : Int) (a0_8 : Bool) (a0_9 : ByteArray) (a0_10 : Bool) (a0_11 : ByteArray) (a0_12 : Int) (r : Bool) (w : World) (h : seneschalref04_Good.f a0_0 a0_1 a0_2 a0_3 a0_4 a0_5 a0_6 a0_7 a0_8 a0_9 a0_10 a0_11 a0_12 = some r) :
    Calls Try.prog 20 #[.agg #[.int .i64 a0_0, .int .i64 a0_1, .int .i64 a0_2, .int .i64 a0_3, .int .i64 a0_4, .int .i64 a0_5, .int .i64 a0_6, .int .i64 a0_7, .bool a0_8, .string a0_9, .bool a0_10, .string a0_11, .int .i64 a0_12]] w fun e w' => e = .returned (.bool r) ∧ Below w.heap.size w w' := by
  obtain rfl := Option.some.inj h
  exact Go.Proofs.Ytianblmceohmnaa.Hand.refGood_calls ⟨a0_0, ⟨a0_1, a0_2, a0_3⟩, a0_4, a0_5, a0_6, a0_7, ⟨a0_8, a0_9⟩, ⟨a0_10, a0_11⟩, a0_12⟩ w
end Go.Proofs.Ytianblmceohmnaa.PAll
