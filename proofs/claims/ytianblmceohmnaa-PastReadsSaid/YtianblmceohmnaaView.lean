/- What Read tells, reckoned: losers and pages as lists that rise. -/
import Derived.Test.YtianblmceohmnaaRead
namespace Go.Proofs.Ytianblmceohmnaa.Hand
open Go.RowKit Go.Maps Go.Proofs.Ytianblmceohmnaa.PAll Go.Proofs.YtianblmceohmnaaW.PrintWords Go.Proofs.MapF
set_option linter.unusedVariables false
set_option linter.unusedSimpArgs false

theorem rising_unique {α : Type} {lt : α → α → Prop} (ir : ∀ x, ¬ lt x x) (tr : ∀ x y z, lt x y → lt y z → lt x z) : ∀ (l m : List α), l.Pairwise lt → m.Pairwise lt → (∀ x, x ∈ l ↔ x ∈ m) → l = m
  | [], [], _, _, _ => rfl
  | [], b :: m, _, _, h => absurd ((h b).2 (by simp)) (by simp)
  | a :: l, [], _, _, h => absurd ((h a).1 (by simp)) (by simp)
  | a :: l, b :: m, hl, hm, h => by
    rw [List.pairwise_cons] at hl hm
    have hab : a = b := by
      have h1 := (h a).1 (by simp)
      have h2 := (h b).2 (by simp)
      rw [List.mem_cons] at h1 h2
      rcases h1 with h1 | h1
      · exact h1
      · rcases h2 with h2 | h2
        · exact h2.symm
        · exact absurd (tr _ _ _ (hl.1 b h2) (hm.1 a h1)) (ir a)
    subst hab
    rw [rising_unique ir tr l m hl.2 hm.2 fun x => ?_]
    have := h x
    rw [List.mem_cons, List.mem_cons] at this
    constructor
    · intro hx
      rcases this.1 (.inr hx) with h1 | h1
      · subst h1; exact absurd (hl.1 x hx) (ir x)
      · exact h1
    · intro hx
      rcases this.2 (.inr hx) with h1 | h1
      · subst h1; exact absurd (hm.1 x hx) (ir x)
      · exact h1
theorem Lt24.irrefl (x : S24) : ¬ Lt24 x x := by unfold Lt24; omega
theorem Lt24.trans (x y z : S24) (h1 : Lt24 x y) (h2 : Lt24 y z) : Lt24 x z := by unfold Lt24 at *; omega
instance (x y : S24) : Decidable (Lt24 x y) := by unfold Lt24; infer_instance

def insL (t : S24) (v : Int) : List S43 → List S43
  | [] => [⟨t, v⟩]
  | y :: r => if Lt24 t y.f0 then ⟨t, v⟩ :: y :: r else if eq24 y.f0 t then ⟨t, v⟩ :: r else y :: insL t v r
def insP (p n : Int) : List S45 → List S45
  | [] => [⟨p, n⟩]
  | y :: r => if p < y.f0 then ⟨p, n⟩ :: y :: r else if y.f0 = p then y :: r else y :: insP p n r

def RiseL (L : List S43) : Prop := L.Pairwise (fun a b => Lt24 a.f0 b.f0)
def RiseP (L : List S45) : Prop := L.Pairwise (fun a b => a.f0 < b.f0)
theorem mem_insL {t : S24} {v : Int} : ∀ {L : List S43}, RiseL L → ∀ y, y ∈ insL t v L ↔ y = ⟨t, v⟩ ∨ (y ∈ L ∧ y.f0 ≠ t)
  | [], _, y => by simp [insL]
  | z :: r, h, y => by
    unfold RiseL at h
    rw [List.pairwise_cons] at h
    unfold insL
    by_cases h1 : Lt24 t z.f0
    · rw [if_pos h1]
      have hz : ∀ w, w ∈ z :: r → w.f0 ≠ t := fun w hw e => by
        rw [List.mem_cons] at hw
        rcases hw with rfl | hw
        · rw [e] at h1; exact Lt24.irrefl _ h1
        · have := h.1 w hw
          rw [e] at this
          exact Lt24.irrefl _ (Lt24.trans _ _ _ h1 this)
      rw [List.mem_cons]
      constructor
      · rintro (h2 | h2)
        · exact .inl h2
        · exact .inr ⟨h2, hz y h2⟩
      · rintro (h2 | h2)
        · exact .inl h2
        · exact .inr h2.1
    · rw [if_neg h1]
      by_cases h2 : eq24 z.f0 t = true
      · rw [if_pos h2]
        have e := (eq24_iff _ _).1 h2
        have hz : ∀ w, w ∈ r → w.f0 ≠ t := fun w hw e' => by
          have := h.1 w hw
          rw [e, e'] at this
          exact Lt24.irrefl _ this
        rw [List.mem_cons, List.mem_cons]
        constructor
        · rintro (h3 | h3)
          · exact .inl h3
          · exact .inr ⟨.inr h3, hz y h3⟩
        · rintro (h3 | ⟨h3 | h3, h4⟩)
          · exact .inl h3
          · subst h3; exact absurd e h4
          · exact .inr h3
      · rw [if_neg h2]
        have e : z.f0 ≠ t := fun e => h2 ((eq24_iff _ _).2 e)
        rw [List.mem_cons, List.mem_cons, mem_insL h.2 y]
        constructor
        · rintro (h3 | h3 | h3)
          · subst h3; exact .inr ⟨.inl rfl, e⟩
          · exact .inl h3
          · exact .inr ⟨.inr h3.1, h3.2⟩
        · rintro (h3 | ⟨h3 | h3, h4⟩)
          · exact .inr (.inl h3)
          · exact .inl h3
          · exact .inr (.inr ⟨h3, h4⟩)
theorem rise_insL {t : S24} {v : Int} : ∀ {L : List S43}, RiseL L → RiseL (insL t v L)
  | [], _ => by simp [insL, RiseL]
  | z :: r, h => by
    have h0 := h
    unfold RiseL at h
    rw [List.pairwise_cons] at h
    unfold insL
    by_cases h1 : Lt24 t z.f0
    · rw [if_pos h1]
      refine List.pairwise_cons.2 ⟨fun w hw => ?_, h0⟩
      rw [List.mem_cons] at hw
      rcases hw with rfl | hw
      · exact h1
      · exact Lt24.trans _ _ _ h1 (h.1 w hw)
    · rw [if_neg h1]
      by_cases h2 : eq24 z.f0 t = true
      · rw [if_pos h2]
        have e := (eq24_iff _ _).1 h2
        exact List.pairwise_cons.2 ⟨fun w hw => by have := h.1 w hw; rw [e] at this; exact this, h.2⟩
      · rw [if_neg h2]
        have e : z.f0 ≠ t := fun e => h2 ((eq24_iff _ _).2 e)
        refine List.pairwise_cons.2 ⟨fun w hw => ?_, rise_insL h.2⟩
        rcases (mem_insL h.2 w).1 hw with rfl | hw
        · rcases Classical.em (Lt24 z.f0 t) with h3 | h3
          · exact h3
          · exact absurd (lt24_tri h3 h1) e
        · exact h.1 w hw.1
theorem mem_insP {p n : Int} : ∀ {L : List S45}, RiseP L → ∀ y, y ∈ insP p n L ↔ y ∈ L ∨ (y = ⟨p, n⟩ ∧ ∀ z ∈ L, z.f0 ≠ p)
  | [], _, y => by simp [insP]
  | z :: r, h, y => by
    unfold RiseP at h
    rw [List.pairwise_cons] at h
    unfold insP
    by_cases h1 : p < z.f0
    · rw [if_pos h1]
      have hz : ∀ w ∈ z :: r, w.f0 ≠ p := fun w hw e => by
        rw [List.mem_cons] at hw
        rcases hw with rfl | hw
        · omega
        · have := h.1 w hw; omega
      rw [List.mem_cons]
      constructor
      · rintro (h2 | h2)
        · exact .inr ⟨h2, hz⟩
        · exact .inl h2
      · rintro (h2 | h2)
        · exact .inr h2
        · exact .inl h2.1
    · rw [if_neg h1]
      by_cases h2 : z.f0 = p
      · rw [if_pos h2]
        constructor
        · exact fun h3 => .inl h3
        · rintro (h3 | h3)
          · exact h3
          · exact absurd h2 (h3.2 z (by simp))
      · rw [if_neg h2, List.mem_cons, List.mem_cons, mem_insP h.2 y]
        constructor
        · rintro (h3 | h3 | h3)
          · exact .inl (.inl h3)
          · exact .inl (.inr h3)
          · refine .inr ⟨h3.1, fun w hw => ?_⟩
            rw [List.mem_cons] at hw
            rcases hw with rfl | hw
            · exact h2
            · exact h3.2 w hw
        · rintro ((h3 | h3) | h3)
          · exact .inl h3
          · exact .inr (.inl h3)
          · exact .inr (.inr ⟨h3.1, fun w hw => h3.2 w (by simp [hw])⟩)
theorem rise_insP {p n : Int} : ∀ {L : List S45}, RiseP L → RiseP (insP p n L)
  | [], _ => by simp [insP, RiseP]
  | z :: r, h => by
    have h0 := h
    unfold RiseP at h
    rw [List.pairwise_cons] at h
    unfold insP
    by_cases h1 : p < z.f0
    · rw [if_pos h1]
      refine List.pairwise_cons.2 ⟨fun w hw => ?_, h0⟩
      rw [List.mem_cons] at hw
      rcases hw with rfl | hw
      · exact h1
      · have := h.1 w hw; show p < w.f0; omega
    · rw [if_neg h1]
      by_cases h2 : z.f0 = p
      · rw [if_pos h2]; exact h0
      · rw [if_neg h2]
        refine List.pairwise_cons.2 ⟨fun w hw => ?_, rise_insP h.2⟩
        rcases (mem_insP h.2 w).1 hw with hw | hw
        · exact h.1 w hw
        · rw [hw.1]; show z.f0 < p; omega
end Go.Proofs.Ytianblmceohmnaa.Hand
