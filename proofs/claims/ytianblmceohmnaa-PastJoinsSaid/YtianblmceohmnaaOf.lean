/- Plain facts of who is done and of the pages that Read tells; past.Of as a filter; the good entries with any number of rounds. -/
import Derived.Test.YtianblmceohmnaaFacts
import Derived.Test.YtianblmceohmnaaLess
namespace Go.Proofs.Ytianblmceohmnaa.Hand
open Go.RowKit Go.Proofs.Ytianblmceohmnaa.PAll Go.Proofs.YtianblmceohmnaaW.PrintWords
set_option linter.unusedVariables false
set_option linter.unusedSimpArgs false

theorem ex_succ {α : Type} {l : List α} {P : Nat → α → Prop} {i : Nat} {z : α} (h : l[i]? = some z) : (∃ j x, j < i + 1 ∧ l[j]? = some x ∧ P j x) ↔ (∃ j x, j < i ∧ l[j]? = some x ∧ P j x) ∨ P i z := by
  constructor
  · rintro ⟨j, x, h1, h2, h3⟩
    rcases Nat.lt_or_ge j i with h4 | h4
    · exact .inl ⟨j, x, h4, h2, h3⟩
    · obtain rfl : j = i := by omega
      rw [h] at h2; cases h2
      exact .inr h3
  · rintro (⟨j, x, h1, h2, h3⟩ | h3)
    · exact ⟨j, x, by omega, h2, h3⟩
    · exact ⟨i, z, by omega, h, h3⟩
theorem ex_stay {α : Type} {l : List α} {P : Nat → α → Prop} {i : Nat} (h : l[i]? = none) : (∃ j x, j < i + 1 ∧ l[j]? = some x ∧ P j x) ↔ (∃ j x, j < i ∧ l[j]? = some x ∧ P j x) := by
  constructor
  · rintro ⟨j, x, h1, h2, h3⟩
    rcases Nat.lt_or_ge j i with h4 | h4
    · exact ⟨j, x, h4, h2, h3⟩
    · obtain rfl : j = i := by omega
      rw [h] at h2; cases h2
  · rintro ⟨j, x, h1, h2, h3⟩
    exact ⟨j, x, by omega, h2, h3⟩

theorem hasT_iff (l : List S24) (t : S24) : hasT l t = true ↔ t ∈ l := by
  unfold hasT
  rw [List.any_eq_true]
  constructor
  · rintro ⟨y, h1, h2⟩
    rw [(eq24_iff _ _).1 h2]; exact h1
  · exact fun h => ⟨t, h, (eq24_iff _ _).2 rfl⟩
theorem vAt_stay {l : List S31} {a : Int} {i : Nat} (h : l[i]? = none) : vAt l a (i + 1) = vAt l a i := by rw [vAt, h]

/-- What an entry does to who is done. -/
def dstep (x : S31) (d : List S24) : List S24 := if good x then (if x.f0 == 3 && !hasT d x.f1 then d ++ [x.f1] else d) else d
theorem done_succ {l : List S31} {a : Int} {i : Nat} {x : S31} (h : l[i]? = some x) : (vAt l a (i + 1)).done = dstep x (vAt l a i).done := by
  rw [vAt_succ h]
  unfold vstep dstep
  split <;> rfl
theorem mem_dstep (x : S31) (d : List S24) (t : S24) : t ∈ dstep x d ↔ t ∈ d ∨ (good x = true ∧ x.f0 = 3 ∧ x.f1 = t) := by
  unfold dstep
  by_cases hg : good x = true
  · rw [if_pos hg]
    by_cases h3 : x.f0 = 3
    · by_cases hh : hasT d x.f1 = true
      · rw [hh]
        simp [h3, hg]
        rintro rfl
        exact (hasT_iff _ _).1 hh
      · have hh' : hasT d x.f1 = false := by simpa using hh
        rw [hh']
        simp [h3, hg, eq_comm]
    · have : (x.f0 == 3) = false := by simpa using h3
      rw [this]
      simp [h3]
  · rw [if_neg hg]; simp [hg]
theorem nodup_dstep (x : S31) (d : List S24) (h : d.Nodup) : (dstep x d).Nodup := by
  unfold dstep
  by_cases hg : good x = true
  · rw [if_pos hg]
    by_cases hh : hasT d x.f1 = true
    · rw [hh]; simpa using h
    · have hh' : hasT d x.f1 = false := by simpa using hh
      rw [hh']
      split
      · rw [List.nodup_append]
        refine ⟨h, by simp, fun a ha b hb => ?_⟩
        simp at hb
        subst hb
        rintro rfl
        exact hh ((hasT_iff _ _).2 ha)
      · exact h
  · rw [if_neg hg]; exact h
theorem done_mem (l : List S31) (a : Int) (t : S24) : ∀ i, t ∈ (vAt l a i).done ↔ ∃ j x, j < i ∧ l[j]? = some x ∧ (good x = true ∧ x.f0 = 3 ∧ x.f1 = t)
  | 0 => by simp [vAt]
  | i + 1 => by
    have ih := done_mem l a t i
    cases hx : l[i]? with
    | none => rw [vAt_stay hx, ih, ex_stay hx]
    | some z => rw [done_succ hx, mem_dstep, ih, ex_succ hx]
theorem done_nodup (l : List S31) (a : Int) : ∀ i, (vAt l a i).done.Nodup
  | 0 => by simp [vAt]
  | i + 1 => by
    have ih := done_nodup l a i
    cases hx : l[i]? with
    | none => rw [vAt_stay hx]; exact ih
    | some z => rw [done_succ hx]; exact nodup_dstep _ _ ih
theorem done_length (l : List S31) (a : Int) : ∀ i, (vAt l a i).done.length ≤ i
  | 0 => by simp [vAt]
  | i + 1 => by
    have ih := done_length l a i
    cases hx : l[i]? with
    | none => rw [vAt_stay hx]; omega
    | some z =>
      rw [done_succ hx]
      unfold dstep
      split
      · split
        · rw [List.length_append]; simp; omega
        · omega
      · omega

/-- A good entry that changes a page. -/
def paged (x : S31) : Bool := good x && !isEnd x
theorem pages_succ {l : List S31} {a : Int} {i : Nat} {x : S31} (h : l[i]? = some x) : (vAt l a (i + 1)).pages = if paged x then insP x.f4 (a + i) (vAt l a i).pages else (vAt l a i).pages := by
  rw [vAt_succ h]
  unfold vstep paged
  cases good x with
  | false => simp
  | true => cases isEnd x <;> simp
theorem riseP_at (l : List S31) (a : Int) (i : Nat) : RiseP (vAt l a i).pages := (rep_at l a i).riseP
theorem pages_has (l : List S31) (a : Int) (p : Int) : ∀ i, (∃ y ∈ (vAt l a i).pages, y.f0 = p) ↔ ∃ j x, j < i ∧ l[j]? = some x ∧ (paged x = true ∧ x.f4 = p)
  | 0 => by simp [vAt]
  | i + 1 => by
    have ih := pages_has l a p i
    cases hx : l[i]? with
    | none => rw [vAt_stay hx, ih, ex_stay hx]
    | some z =>
      rw [pages_succ hx, ex_succ hx, ← ih]
      by_cases hp : paged z = true
      · rw [if_pos hp]
        constructor
        · rintro ⟨y, h1, h2⟩
          rcases (mem_insP (riseP_at l a i) y).1 h1 with h3 | h3
          · exact .inl ⟨y, h3, h2⟩
          · rw [h3.1] at h2
            exact .inr ⟨hp, h2⟩
        · rintro (⟨y, h1, h2⟩ | h1)
          · exact ⟨y, (mem_insP (riseP_at l a i) y).2 (.inl h1), h2⟩
          · rcases Classical.em (∃ y ∈ (vAt l a i).pages, y.f0 = p) with ⟨y, k1, k2⟩ | k
            · exact ⟨y, (mem_insP (riseP_at l a i) y).2 (.inl k1), k2⟩
            · exact ⟨⟨z.f4, a + i⟩, (mem_insP (riseP_at l a i) _).2 (.inr ⟨rfl, fun y h2 h3 => k ⟨y, h2, h3.trans h1.2⟩⟩), h1.2⟩
      · rw [if_neg hp]
        simp [hp]
theorem pages_mem (l : List S31) (a : Int) (y : S45) : ∀ i, y ∈ (vAt l a i).pages ↔ ∃ j x, j < i ∧ l[j]? = some x ∧ (paged x = true ∧ y = ⟨x.f4, a + j⟩ ∧ ∀ j' x', j' < j → l[j']? = some x' → paged x' = true → x'.f4 ≠ x.f4)
  | 0 => by simp [vAt]
  | i + 1 => by
    have ih := pages_mem l a y i
    cases hx : l[i]? with
    | none => rw [vAt_stay hx, ih, ex_stay hx]
    | some z =>
      rw [pages_succ hx, ex_succ hx, ← ih]
      by_cases hp : paged z = true
      · rw [if_pos hp, mem_insP (riseP_at l a i) y]
        refine or_congr Iff.rfl ⟨fun ⟨h1, h2⟩ => ⟨hp, h1, fun j' x' k1 k2 k3 k4 => ?_⟩, fun ⟨_, h1, h2⟩ => ⟨h1, fun w hw h3 => ?_⟩⟩
        · obtain ⟨w, q1, q2⟩ := (pages_has l a z.f4 i).2 ⟨j', x', k1, k2, k3, k4⟩
          exact h2 w q1 q2
        · obtain ⟨j', x', q1, q2, q3, q4⟩ := (pages_has l a z.f4 i).1 ⟨w, hw, h3⟩
          exact h2 j' x' q1 q2 q3 q4
      · rw [if_neg hp]
        simp [hp]
theorem insP_length (t v : Int) : ∀ L, (insP t v L).length ≤ L.length + 1
  | [] => by simp [insP]
  | y :: r => by
    unfold insP
    split
    · simp
    · split
      · simp
      · have := insP_length t v r
        simp; omega
theorem pages_length (l : List S31) (a : Int) : ∀ i, (vAt l a i).pages.length ≤ i
  | 0 => by simp [vAt]
  | i + 1 => by
    have ih := pages_length l a i
    cases hx : l[i]? with
    | none => rw [vAt_stay hx]; omega
    | some z =>
      rw [pages_succ hx]
      split
      · have := insP_length z.f4 (a + i) (vAt l a i).pages
        omega
      · omega

/-! Two lists, one behind the other. -/
theorem at_left {a b : List S31} {j : Nat} (h : j < a.length) : (a ++ b)[j]? = a[j]? := List.getElem?_append_left h
theorem at_right {a b : List S31} (j : Nat) : (a ++ b)[a.length + j]? = b[j]? := by rw [List.getElem?_append_right (by omega)]; congr 1; omega
theorem done_left (a b : List S31) (f : Int) : ∀ i, i ≤ a.length → (vAt (a ++ b) f i).done = (vAt a f i).done
  | 0, _ => rfl
  | i + 1, h => by
    have ih := done_left a b f i (by omega)
    have h1 : a[i]? = some (a[i]'(by omega)) := List.getElem?_eq_getElem _
    rw [done_succ h1, done_succ ((at_left (by omega)).trans h1), ih]
theorem done_right (a b : List S31) (f g : Int) : ∀ i, i ≤ b.length → (vAt (a ++ b) f (a.length + i)).done = (vAt a f a.length).done ++ (vAt b g i).done.filter (fun t => !hasT (vAt a f a.length).done t)
  | 0, _ => by rw [Nat.add_zero, done_left a b f a.length (Nat.le_refl _)]; simp [vAt]
  | i + 1, h => by
    have ih := done_right a b f g i (by omega)
    have h1 : b[i]? = some (b[i]'(by omega)) := List.getElem?_eq_getElem _
    rw [← Nat.add_assoc, done_succ ((at_right i).trans h1), done_succ h1, ih]
    generalize b[i]'(by omega) = x
    generalize (vAt a f a.length).done = A
    generalize (vAt b g i).done = B
    unfold dstep
    by_cases hg : good x = true
    · rw [if_pos hg, if_pos hg]
      by_cases h3 : (x.f0 == 3) = true
      · rw [h3]
        simp only [Bool.true_and]
        have key : hasT (A ++ B.filter fun t => !hasT A t) x.f1 = (hasT A x.f1 || hasT B x.f1) := by
          rw [Bool.eq_iff_iff, Bool.or_eq_true, hasT_iff, hasT_iff, hasT_iff, List.mem_append, List.mem_filter]
          constructor
          · rintro (h | h)
            · exact .inl h
            · exact .inr h.1
          · rintro (h | h)
            · exact .inl h
            · rcases Classical.em (x.f1 ∈ A) with k | k
              · exact .inl k
              · refine .inr ⟨h, ?_⟩
                have : hasT A x.f1 = false := by
                  rw [Bool.eq_false_iff]; exact fun e => k ((hasT_iff _ _).1 e)
                rw [this]; rfl
        rw [key]
        cases hA : hasT A x.f1 <;> cases hB : hasT B x.f1 <;> simp [hA, List.filter_append]
      · rw [if_neg (by simp [h3]), if_neg (by simp [h3])]
    · rw [if_neg hg, if_neg hg]
end Go.Proofs.Ytianblmceohmnaa.Hand
namespace Go.Proofs.Ytianblmceohmnaa.Hand
open Go.RowKit Go.Proofs.Ytianblmceohmnaa.PAll Go.Proofs.YtianblmceohmnaaW.PrintWords
set_option linter.unusedVariables false
set_option linter.unusedSimpArgs false

theorem good_any (k : Nat) (x : S31) (hk : 3 ≤ k) : entry_Good.f k x.f0 x.f1.f0 x.f1.f1 x.f1.f2 x.f2 x.f3 x.f4 x.f5 x.f6.f0 x.f6.f1 x.f7.f0 x.f7.f1 x.f8 = some (good x) := by
  obtain ⟨d, rfl⟩ : ∃ d, k = 3 + d := ⟨k - 3, by omega⟩
  induction d with
  | zero => exact good_some x
  | succ d ih => exact entry_Good.mono _ _ _ _ _ _ _ _ _ _ _ _ _ (3 + d) _ (ih (by omega))
theorem rd31 {l : List S31} {i : Nat} (h : i < l.length) : rd_T31 l (i : Int) = l[i] := by simp [rd_T31, List.getD, h]
theorem rd43 {l : List S43} {i : Nat} (h : i < l.length) : rd_T43 l (i : Int) = l[i] := by simp [rd_T43, List.getD, h]
theorem rd45 {l : List S45} {i : Nat} (h : i < l.length) : rd_T45 l (i : Int) = l[i] := by simp [rd_T45, List.getD, h]
theorem rd24 {l : List S24} {i : Nat} (h : i < l.length) : rd_T24 l (i : Int) = l[i] := by simp [rd_T24, List.getD, h]
theorem wrap_succ {i : Nat} (h : i < 1000000) : wrap64 ((i : Int) + 1) = ((i + 1 : Nat) : Int) := by unfold wrap64; omega
theorem wrap_pred {i : Nat} (h : i < 1000000) : wrap64 (((i + 1 : Nat) : Int) - 1) = (i : Int) := by unfold wrap64; omega

def ofF (l : List S31) (t : S24) : List S31 := l.filter (fun x => eq24 x.f1 t && good x)
theorem of_loop (l : List S31) (t : S24) (hl : l.length ≤ 1000) : ∀ (n i : Nat) (acc : List S31), i + n = l.length → acc.length ≤ i → ∀ c, n + 4 ≤ c →
    past_Of.l0 c acc l (l.length : Int) (i : Int) t.f0 t.f1 t.f2 = some (acc ++ ofF (l.drop i) t)
  | 0, i, acc, h, ha, c, hc => by
    obtain ⟨c, rfl⟩ : ∃ c', c = c' + 1 := ⟨c - 1, by omega⟩
    rw [past_Of.l0, if_neg (by omega), List.drop_eq_nil_of_le (by omega)]
    simp [ofF]
  | n + 1, i, acc, h, ha, c, hc => by
    obtain ⟨c, rfl⟩ : ∃ c', c = c' + 1 := ⟨c - 1, by omega⟩
    have hi : i < l.length := by omega
    rw [past_Of.l0, if_pos (by omega), if_pos (by omega), if_pos (by omega), rd31 hi, wrap_succ (by omega), good_any c l[i] (by omega)]
    rw [List.drop_eq_getElem_cons hi]
    unfold ofF
    rw [List.filter_cons]
    by_cases he : eq24 l[i].f1 t = true
    · rw [if_pos (show (l[i].f1.f0 == t.f0 && (l[i].f1.f1 == t.f1 && l[i].f1.f2 == t.f2)) = true from he)]
      simp only [Option.bind_some]
      cases hg : good l[i] with
      | true =>
        rw [if_pos rfl, if_pos (by omega)]
        have := of_loop l t hl n (i + 1) (acc ++ [l[i]]) (by omega) (by simp; omega) c (by omega)
        rw [he]
        simp only [Bool.and_self, if_true]
        rw [show acc ++ l[i] :: (l.drop (i + 1)).filter (fun x => eq24 x.f1 t && good x) = (acc ++ [l[i]]) ++ ofF (l.drop (i + 1)) t by simp [ofF]]
        exact this
      | false =>
        rw [if_neg (by simp), he]
        simp only [Bool.and_false, Bool.false_eq_true, if_false]
        exact of_loop l t hl n (i + 1) acc (by omega) (by omega) c (by omega)
    · rw [if_neg (show ¬ (l[i].f1.f0 == t.f0 && (l[i].f1.f1 == t.f1 && l[i].f1.f2 == t.f2)) = true from he)]
      have he' : eq24 l[i].f1 t = false := by simpa using he
      rw [he']
      simp only [Bool.false_and, Bool.false_eq_true, if_false]
      exact of_loop l t hl n (i + 1) acc (by omega) (by omega) c (by omega)
theorem of_any (l : List S31) (t : S24) (hl : l.length ≤ 1000) (c : Nat) (hc : l.length + 4 ≤ c) : past_Of.f c l t.f0 t.f1 t.f2 = some (ofF l t) := by
  unfold past_Of.f
  have := of_loop l t hl l.length 0 [] (by omega) (by simp) c hc
  simpa using this
theorem ofF_length (l : List S31) (t : S24) : (ofF l t).length ≤ l.length := List.length_filter_le _ _
theorem atEnd_ofF (l : List S31) (t : S24) : atEnd l t = (ofF l t).any isEnd := by
  unfold atEnd ofF
  rw [List.any_filter]
  congr 1
  funext x
  cases good x <;> cases isEnd x <;> cases eq24 x.f1 t <;> rfl
theorem ofF_last (l : List S31) (t : S24) {j : Nat} {z : S31} (h1 : l[j]? = some z) (h2 : good z = true) (h3 : z.f1 = t) (h4 : ∀ j' x', j < j' → j' < l.length → l[j']? = some x' → good x' = true → x'.f1 ≠ t) : ∃ pre, ofF l t = pre ++ [z] := by
  obtain ⟨hj, hz⟩ := List.getElem?_eq_some_iff.1 h1
  refine ⟨ofF (l.take j) t, ?_⟩
  have e : l = l.take j ++ z :: l.drop (j + 1) := by
    rw [← hz, ← List.drop_eq_getElem_cons hj, List.take_append_drop]
  have hn : ofF (l.drop (j + 1)) t = [] := by
    unfold ofF
    rw [List.filter_eq_nil_iff]
    intro x hx
    obtain ⟨i, hi, rfl⟩ := List.getElem_of_mem hx
    have hi' : j + 1 + i < l.length := by simp at hi; omega
    rw [List.getElem_drop]
    intro hh
    simp only [Bool.and_eq_true] at hh
    exact h4 (j + 1 + i) _ (by omega) hi' (List.getElem?_eq_getElem hi') hh.2 ((eq24_iff _ _).1 hh.1)
  have hz2 : (eq24 z.f1 t && good z) = true := by rw [h2, (eq24_iff _ _).2 h3]; rfl
  conv => lhs; rw [e]
  unfold ofF at hn ⊢
  rw [List.filter_append, List.filter_cons, if_pos hz2, hn]
theorem rise_sub {α : Type} {lt : α → α → Prop} (ir : ∀ x, ¬ lt x x) (tr : ∀ x y z, lt x y → lt y z → lt x z) : ∀ (W L : List α), L.Pairwise lt → W.Pairwise lt → (∀ y ∈ L, y ∈ W) → List.Sublist L W
  | [], L, _, _, h => by
    cases L with
    | nil => exact List.Sublist.slnil
    | cons a L => exact absurd (h a (by simp)) (by simp)
  | b :: W, [], _, _, _ => List.nil_sublist _
  | b :: W, a :: L, hL, hW, h => by
    rw [List.pairwise_cons] at hW
    have hL' := hL
    rw [List.pairwise_cons] at hL
    rcases Classical.em (a = b) with e | e
    · subst e
      refine List.Sublist.cons_cons _ (rise_sub ir tr W L hL.2 hW.2 fun y hy => ?_)
      have := h y (by simp [hy])
      rw [List.mem_cons] at this
      rcases this with h1 | h1
      · subst h1; exact absurd (hL.1 y hy) (ir y)
      · exact h1
    · have ha : a ∈ W := by
        have := h a (by simp)
        rw [List.mem_cons] at this
        exact this.resolve_left e
      refine List.Sublist.cons _ (rise_sub ir tr W (a :: L) hL' hW.2 fun y hy => ?_)
      have := h y hy
      rw [List.mem_cons] at this
      rcases this with h1 | h1
      · subst h1
        rw [List.mem_cons] at hy
        rcases hy with h2 | h2
        · exact absurd h2.symm e
        · exact absurd (tr _ _ _ (hL.1 y h2) (hW.1 a ha)) (ir a)
      · exact h1

theorem insL_len (t : S24) (v : Int) : ∀ L, (insL t v L).length ≤ L.length + 1
  | [] => by simp [insL]
  | y :: r => by
    unfold insL
    split
    · simp
    · split
      · simp
      · have := insL_len t v r
        simp; omega
theorem losers_len (l : List S31) (a : Int) : ∀ i, (vAt l a i).losers.length ≤ i
  | 0 => by simp [vAt]
  | i + 1 => by
    have ih := losers_len l a i
    rw [vAt]
    cases l[i]? with
    | none => dsimp only; omega
    | some x =>
      dsimp only
      unfold vstep
      split
      · dsimp only
        split
        · omega
        · have := insL_len x.f1 x.f2 (vAt l a i).losers
          omega
      · omega
/-- Rounds enough. -/
def big (n : Nat) : Nat := n * 1000 + 1000
theorem big_zero : big 0 = 1000 := rfl
theorem big_succ (n : Nat) : big (n + 1) = big n + 1000 := by unfold big; omega
end Go.Proofs.Ytianblmceohmnaa.Hand
