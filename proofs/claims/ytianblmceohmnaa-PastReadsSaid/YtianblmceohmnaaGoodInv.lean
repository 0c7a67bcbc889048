/- What a good entry's kind and page are. -/
import Derived.Test.YtianblmceohmnaaKeys
namespace Go.Proofs.Ytianblmceohmnaa.Hand
open Go.RowKit Go.Proofs.Ytianblmceohmnaa.PAll Go.Proofs.YtianblmceohmnaaW.PrintWords
set_option linter.unusedVariables false
set_option linter.unusedSimpArgs false

theorem within_inv {a b c : Int} {r : Bool} (h : entry_within.f a b c = some r) : r = (decide (b ≤ a) && decide (a ≤ c)) := by
  unfold entry_within.f at h
  split at h
  · rename_i h1; cases h; simp [show b ≤ a from h1]
  · rename_i h1; cases h; simp [show ¬ b ≤ a from h1]
theorem j1_inv (k : Nat) {x61 : Bool} {a b c d e f g h : Int} {i : Bool} {j : ByteArray} {l : Bool} {m : ByteArray} {n : Int} (hj : entry_Good.j1 (k + 2) x61 a b c d e f g h i j l m n = some true) :
    ((a = 1 ∨ a = 2) ∧ x61 = true) ∨ ((a = 3 ∨ a = 4) ∧ g = 0) := by
  rw [entry_Good.j1] at hj
  by_cases h1 : a = 1
  · rw [if_pos h1] at hj
    cases x61
    · simp at hj
    · exact .inl ⟨.inl h1, rfl⟩
  rw [if_neg h1] at hj
  by_cases h2 : a = 2
  · rw [if_pos h2] at hj
    cases x61
    · simp at hj
    · exact .inl ⟨.inr h2, rfl⟩
  rw [if_neg h2] at hj
  have key : ∀ z : Bool, entry_Good.j2 (k + 1) z a b c d e f g h i j l m n = some true → z = true ∧ g = 0 := by
    intro z hz
    rw [entry_Good.j2] at hz
    cases z
    · simp at hz
    · simp [entry_plain.f] at hz
      obtain ⟨g0, h0, ⟨i0, j0⟩, ⟨l0, m0⟩, n0⟩ := hz
      exact ⟨rfl, g0⟩
  by_cases h3 : a = 3
  · rw [if_pos h3] at hj
    exact .inr ⟨.inl h3, (key _ hj).2⟩
  · rw [if_neg h3] at hj
    have := key _ hj
    exact .inr ⟨.inr (by simpa using this.1), this.2⟩
theorem j0_inv (k : Nat) {x61 : Bool} {a b c d e f g h : Int} {i : Bool} {j : ByteArray} {l : Bool} {m : ByteArray} {n : Int} (hj : entry_Good.j0 (k + 3) x61 a b c d e f g h i j l m n = some true) :
    ((a = 1 ∨ a = 2) ∧ 0 ≤ g ∧ g ≤ 1023) ∨ ((a = 3 ∨ a = 4) ∧ g = 0) := by
  rw [entry_Good.j0] at hj
  cases x61
  · rw [if_neg (by simp)] at hj
    obtain ⟨t, ht, hj⟩ := Option.bind_eq_some_iff.1 hj
    have := within_inv ht
    cases t
    · simp at hj
      rcases j1_inv k hj with h1 | h1
      · exact absurd h1.2 (by simp)
      · exact .inr h1
    · simp at this
      have key : ∀ z, entry_Good.j1 (k + 2) z a b c d e f g h i j l m n = some true → ((a = 1 ∨ a = 2) ∧ 0 ≤ g ∧ g ≤ 1023) ∨ ((a = 3 ∨ a = 4) ∧ g = 0) := fun z hz => by
        rcases j1_inv k hz with h1 | h1
        · exact .inl ⟨h1.1, by omega, by omega⟩
        · exact .inr h1
      rw [if_pos rfl] at hj
      obtain ⟨t, ht, hj⟩ := Option.bind_eq_some_iff.1 hj
      split at hj
      · obtain ⟨t, ht, hj⟩ := Option.bind_eq_some_iff.1 hj
        split at hj
        · obtain ⟨t, ht, hj⟩ := Option.bind_eq_some_iff.1 hj
          exact key _ hj
        · exact key _ hj
      · exact key _ hj
  · simp at hj
theorem good_page {x : S31} (h : good x = true) : ((x.f0 = 1 ∨ x.f0 = 2) ∧ 0 ≤ x.f4 ∧ x.f4 ≤ 1023) ∨ ((x.f0 = 3 ∨ x.f0 = 4) ∧ x.f4 = 0) := by
  have g := good_some x
  rw [h] at g
  unfold entry_Good.f at g
  obtain ⟨t, ht, g⟩ := Option.bind_eq_some_iff.1 g
  split at g
  · obtain ⟨t, ht, g⟩ := Option.bind_eq_some_iff.1 g
    split at g
    · obtain ⟨t, ht, g⟩ := Option.bind_eq_some_iff.1 g
      exact j0_inv 0 g
    · exact j0_inv 0 g
  · exact j0_inv 0 g
theorem page_wf {x : S31} (h : good x = true) : (Lit.int .i64 x.f4).wf = true := by
  rcases good_page h with h1 | h1
  · exact wf_of (by unfold I64; omega)
  · exact wf_of (by unfold I64; omega)
end Go.Proofs.Ytianblmceohmnaa.Hand
