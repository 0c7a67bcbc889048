/- Plain facts of what Read tells. -/
import Derived.Test.YtianblmceohmnaaStands
import Derived.Test.YtianblmceohmnaaPAllx17
namespace Go.Proofs.Ytianblmceohmnaa.Hand
open Go.RowKit Go.Proofs.Ytianblmceohmnaa.PAll Go.Proofs.YtianblmceohmnaaW.PrintWords
set_option linter.unusedVariables false
set_option linter.unusedSimpArgs false

/-- great's answer: where it is false, there are few entries. -/
theorem great_loop (l : List S31) : ∀ (n i : Nat), i + n = l.length → l.length ≤ 80 → ∃ b, seneschallaw17_great.l0 (n + 1) l (i : Int) = some b
  | 0, i, h, hl => ⟨false, by rw [seneschallaw17_great.l0, if_neg (by omega)]⟩
  | n + 1, i, h, hl => by
    rw [seneschallaw17_great.l0, if_pos (by omega), if_pos (by omega)]
    by_cases h1 : (((rd_T31 l (i : Int)).f6.f1).size : Int) > 1024
    · exact ⟨true, by rw [if_pos h1]⟩
    · rw [if_neg h1]
      by_cases h2 : (((rd_T31 l (i : Int)).f7.f1).size : Int) > 1024
      · exact ⟨true, by rw [if_pos h2]⟩
      · rw [if_neg h2]
        have hw : wrap64 ((i : Int) + 1) = ((i + 1 : Nat) : Int) := by unfold wrap64; omega
        rw [hw]
        exact great_loop l n (i + 1) (by omega) hl
theorem great_some (l : List S31) : ∃ b, (∀ k, l.length + 1 ≤ k → seneschallaw17_great.f k l = some b) ∧ (b = false → l.length ≤ 80) := by
  by_cases h : (l.length : Int) > 80
  · exact ⟨true, fun k _ => by unfold seneschallaw17_great.f; rw [if_pos h], fun e => by cases e⟩
  · obtain ⟨b, hb⟩ := great_loop l l.length 0 (by omega) (by omega)
    refine ⟨b, fun k hk => ?_, fun _ => by omega⟩
    have hm : ∀ d, seneschallaw17_great.f (l.length + 1 + d) l = some b := by
      intro d
      induction d with
      | zero => unfold seneschallaw17_great.f; rw [if_neg h]; exact hb
      | succ d ih => exact seneschallaw17_great.mono l (l.length + 1 + d) _ ih
    obtain ⟨d, rfl⟩ : ∃ d, k = l.length + 1 + d := ⟨k - (l.length + 1), by omega⟩
    exact hm d

theorem riseL_at (l : List S31) (a : Int) (i : Nat) : RiseL (vAt l a i).losers := (rep_at l a i).riseL
/-- Who is a loser, and by which entry. -/
theorem losers_mem (l : List S31) (a : Int) : ∀ (i : Nat) (y : S43), y ∈ (vAt l a i).losers ↔
    ∃ j x, j < i ∧ l[j]? = some x ∧ good x = true ∧ atEnd l x.f1 = false ∧ y = ⟨x.f1, x.f2⟩ ∧ ∀ j' x', j < j' → j' < i → l[j']? = some x' → good x' = true → x'.f1 ≠ x.f1
  | 0, y => by simp [vAt]
  | i + 1, y => by
    have ih := losers_mem l a i
    cases hx : l[i]? with
    | none =>
      rw [vAt, hx]
      dsimp only
      rw [ih y]
      constructor
      · rintro ⟨j, x, h1, h2, h3, h4, h5, h6⟩
        refine ⟨j, x, by omega, h2, h3, h4, h5, fun j' x' k1 k2 k3 k4 => ?_⟩
        rcases Nat.lt_or_ge j' i with h | h
        · exact h6 j' x' k1 h k3 k4
        · obtain rfl : j' = i := by omega
          rw [hx] at k3; cases k3
      · rintro ⟨j, x, h1, h2, h3, h4, h5, h6⟩
        refine ⟨j, x, ?_, h2, h3, h4, h5, fun j' x' k1 k2 k3 k4 => h6 j' x' k1 (by omega) k3 k4⟩
        rcases Nat.lt_or_ge j i with h | h
        · exact h
        · obtain rfl : j = i := by omega
          rw [hx] at h2; cases h2
    | some z =>
      rw [vAt_succ hx]
      unfold vstep
      by_cases hg : good z = true
      · rw [if_pos hg]
        dsimp only
        cases he : atEnd l z.f1 with
        | true =>
          rw [if_pos rfl, ih y]
          constructor
          · rintro ⟨j, x, h1, h2, h3, h4, h5, h6⟩
            refine ⟨j, x, by omega, h2, h3, h4, h5, fun j' x' k1 k2 k3 k4 => ?_⟩
            rcases Nat.lt_or_ge j' i with h | h
            · exact h6 j' x' k1 h k3 k4
            · obtain rfl : j' = i := by omega
              rw [hx] at k3; cases k3
              intro e; rw [e, h4] at he; cases he
          · rintro ⟨j, x, h1, h2, h3, h4, h5, h6⟩
            refine ⟨j, x, ?_, h2, h3, h4, h5, fun j' x' k1 k2 k3 k4 => h6 j' x' k1 (by omega) k3 k4⟩
            rcases Nat.lt_or_ge j i with h | h
            · exact h
            · obtain rfl : j = i := by omega
              rw [hx] at h2; cases h2
              rw [h4] at he; cases he
        | false =>
          rw [if_neg (by simp), mem_insL (riseL_at l a i), ih y]
          constructor
          · rintro (rfl | ⟨⟨j, x, h1, h2, h3, h4, h5, h6⟩, h7⟩)
            · exact ⟨i, z, by omega, hx, hg, he, rfl, fun j' x' k1 k2 => by omega⟩
            · refine ⟨j, x, by omega, h2, h3, h4, h5, fun j' x' k1 k2 k3 k4 => ?_⟩
              rcases Nat.lt_or_ge j' i with h | h
              · exact h6 j' x' k1 h k3 k4
              · obtain rfl : j' = i := by omega
                rw [hx] at k3; cases k3
                rw [h5] at h7
                exact fun e => h7 e.symm
          · rintro ⟨j, x, h1, h2, h3, h4, h5, h6⟩
            rcases Nat.lt_or_ge j i with h | h
            · refine .inr ⟨⟨j, x, h, h2, h3, h4, h5, fun j' x' k1 k2 k3 k4 => h6 j' x' k1 (by omega) k3 k4⟩, ?_⟩
              rw [h5]
              exact fun e => h6 i z h (by omega) hx hg e.symm
            · obtain rfl : j = i := by omega
              rw [hx] at h2; cases h2
              exact .inl h5
      · rw [if_neg hg, ih y]
        constructor
        · rintro ⟨j, x, h1, h2, h3, h4, h5, h6⟩
          refine ⟨j, x, by omega, h2, h3, h4, h5, fun j' x' k1 k2 k3 k4 => ?_⟩
          rcases Nat.lt_or_ge j' i with h | h
          · exact h6 j' x' k1 h k3 k4
          · obtain rfl : j' = i := by omega
            rw [hx] at k3; cases k3
            exact absurd k4 hg
        · rintro ⟨j, x, h1, h2, h3, h4, h5, h6⟩
          refine ⟨j, x, ?_, h2, h3, h4, h5, fun j' x' k1 k2 k3 k4 => h6 j' x' k1 (by omega) k3 k4⟩
          rcases Nat.lt_or_ge j i with h | h
          · exact h
          · obtain rfl : j = i := by omega
            rw [hx] at h2; cases h2
            exact absurd h3 hg
end Go.Proofs.Ytianblmceohmnaa.Hand
