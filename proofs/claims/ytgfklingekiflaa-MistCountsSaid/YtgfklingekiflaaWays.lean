/- The ways of a net in plain lists: what a pick, a copy, a clear leave on each way. -/
import Derived.Test.YtgfklingekiflaaArgs
namespace Go.Proofs.Ytgfklingekiflaa
open Go.RowKit Go.Shelf

/-! ### The ways of a net, in plain lists -/
/-- What is under way on a way, in order. -/
def wl (l : List G) (c : Int) (u : Bool) : List G := l.filter (isWay c u)

theorem plc_len (l : List G) (c : Int) (u : Bool) (k : Nat) : (plc l c u k).length = ((l.take k).filter (isWay c u)).length := by
  induction k with
  | zero => simp [plc]
  | succ k ih =>
    rw [plc_succ, List.take_add_one, List.length_append, List.filter_append, List.length_append, ih]
    congr 1
    unfold hit
    cases h : l[k]? with
    | none => simp
    | some x => cases hx : isWay c u x <;> simp [hx]

theorem cnt_wl (l : List G) (c : Int) (u : Bool) : cnt l c u = (wl l c u).length := by
  unfold cnt wl
  rw [plc_len, List.take_length]

theorem plc_at {l : List G} {c : Int} {u : Bool} {k t i : Nat} (h : (plc l c u k)[t]? = some i) : ∃ x, l[i]? = some x ∧ isWay c u x = true ∧ ((l.take i).filter (isWay c u)).length = t := by
  induction k with
  | zero => simp [plc] at h
  | succ k ih =>
    rw [plc_succ] at h
    rcases Nat.lt_or_ge t (plc l c u k).length with h1 | h1
    · rw [List.getElem?_append_left h1] at h; exact ih h
    · rw [List.getElem?_append_right h1] at h
      cases hh : hit l c u k with
      | false => simp [hh] at h
      | true =>
        simp [hh] at h
        obtain ⟨h2, rfl⟩ := List.getElem?_eq_some_iff.1 h
        simp at h2
        unfold hit at hh
        cases hk : l[k]? with
        | none => simp [hk] at hh
        | some x =>
          simp [hk] at hh
          refine ⟨x, by simpa using hk, hh, ?_⟩
          have := plc_len l c u k
          simp
          omega

theorem split_at {l : List G} {i : Nat} {x : G} (h : l[i]? = some x) : l = l.take i ++ x :: l.drop (i + 1) := by
  have hlt := (List.getElem?_eq_some_iff.1 h).1
  have hxe := (List.getElem?_eq_some_iff.1 h).2
  conv => lhs; rw [← List.take_append_drop i l]
  rw [List.drop_eq_getElem_cons hlt, hxe]

theorem wl_at {l : List G} {c : Int} {u : Bool} {i t : Nat} {x : G} (h : l[i]? = some x) (hx : isWay c u x = true) (ht : ((l.take i).filter (isWay c u)).length = t) : (wl l c u)[t]? = some x := by
  unfold wl
  rw [split_at h, List.filter_append, List.getElem?_append_right (by omega), ht]
  simp [hx]

/-- What a pick takes. -/
theorem pull_way (l : List G) (c : Int) (u : Bool) (t : Int) : pullG l (plOf l c u t) = if 0 ≤ t then (wl l c u)[t.toNat]? else none := by
  unfold plOf nth
  by_cases ht : 0 ≤ t
  · rw [if_pos ht, if_pos ht]
    cases h : (plc l c u l.length)[t.toNat]? with
    | none =>
      have h1 := List.getElem?_eq_none_iff.1 h
      rw [plc_len, List.take_length] at h1
      rw [List.getElem?_eq_none (show (wl l c u).length ≤ t.toNat from h1)]
      simp [pullG]
    | some i =>
      obtain ⟨x, hx1, hx2, hx3⟩ := plc_at h
      rw [wl_at hx1 hx2 hx3]
      simp [pullG, hx1]
  · rw [if_neg ht, if_neg ht]
    simp [pullG]

theorem erase_at {l : List G} {i : Nat} {x : G} (_h : l[i]? = some x) : l.eraseIdx i = l.take i ++ l.drop (i + 1) := List.eraseIdx_eq_take_drop_succ l i

/-- What a pick leaves on its own way. -/
theorem pull_same (l : List G) (c : Int) (u : Bool) (t : Int) : wl (pullL l (plOf l c u t)) c u = if 0 ≤ t then (wl l c u).eraseIdx t.toNat else wl l c u := by
  unfold plOf nth
  by_cases ht : 0 ≤ t
  · rw [if_pos ht, if_pos ht]
    cases h : (plc l c u l.length)[t.toNat]? with
    | none =>
      have h1 := List.getElem?_eq_none_iff.1 h
      rw [plc_len, List.take_length] at h1
      rw [List.eraseIdx_of_length_le (show (wl l c u).length ≤ t.toNat from h1)]
      simp [pullL]
    | some i =>
      obtain ⟨x, hx1, hx2, hx3⟩ := plc_at h
      simp only [pullL, Int.toNat_natCast]
      rw [if_pos (by omega), erase_at hx1]
      unfold wl
      conv => rhs; rw [split_at hx1]
      rw [List.filter_append, List.filter_append, List.eraseIdx_append_of_length_le (by omega), hx3]
      simp [hx2]
  · rw [if_neg ht, if_neg ht]
    simp [pullL]

/-- What it leaves on the others. -/
theorem pull_other (l : List G) (c : Int) (u : Bool) (t : Int) (c' : Int) (u' : Bool) (hne : c' ≠ c ∨ u' ≠ u) : wl (pullL l (plOf l c u t)) c' u' = wl l c' u' := by
  unfold plOf nth
  by_cases ht : 0 ≤ t
  · rw [if_pos ht]
    cases h : (plc l c u l.length)[t.toNat]? with
    | none => simp [pullL]
    | some i =>
      obtain ⟨x, hx1, hx2, hx3⟩ := plc_at h
      simp only [pullL, Int.toNat_natCast]
      rw [if_pos (by omega), erase_at hx1]
      have hx4 : isWay c' u' x = false := by
        simp only [isWay, Bool.and_eq_true, beq_iff_eq] at hx2
        simp only [isWay, Bool.and_eq_false_iff, beq_eq_false_iff_ne]
        rcases hne with h | h
        · exact .inl fun e => h (e.symm.trans hx2.1)
        · exact .inr fun e => h (e.symm.trans hx2.2)
      unfold wl
      conv => rhs; rw [split_at hx1]
      rw [List.filter_append, List.filter_append]
      simp [hx4]
  · rw [if_neg ht]
    simp [pullL]

theorem wl_put (l : List G) (x : G) (c : Int) (u : Bool) : wl (l ++ [x]) c u = wl l c u ++ (if isWay c u x then [x] else []) := by
  unfold wl; rw [List.filter_append]; simp [List.filter_cons]

theorem way_of_wl {l : List G} {c : Int} {u : Bool} {x : G} (h : x ∈ wl l c u) : x ∈ l ∧ isWay c u x = true := List.mem_filter.1 h
theorem isWay_iff {c : Int} {u : Bool} {x : G} : isWay c u x = true ↔ x.c = c ∧ x.u = u := by simp [isWay]

/-- What a copy leaves on the others. -/
theorem copy_other (l : List G) (c : Int) (u : Bool) (t : Int) (c' : Int) (u' : Bool) (hne : c' ≠ c ∨ u' ≠ u) : wl (copyL l c u t) c' u' = wl l c' u' := by
  unfold copyL
  rw [pull_way]
  split
  · rename_i g hg
    have hw : isWay c u g = true := by
      split at hg
      · exact (way_of_wl (List.mem_of_getElem? hg)).2
      · cases hg
    unfold putList
    split
    · rw [wl_put]
      have hx4 : isWay c' u' g = false := by
        simp only [isWay, Bool.and_eq_true, beq_iff_eq] at hw
        simp only [isWay, Bool.and_eq_false_iff, beq_eq_false_iff_ne]
        rcases hne with h | h
        · exact .inl fun e => h (e.symm.trans hw.1)
        · exact .inr fun e => h (e.symm.trans hw.2)
      simp [hx4]
    · rfl
  · rfl

theorem clear_way (l : List G) (c : Int) (c' : Int) (u' : Bool) : wl (l.filter (notOf c)) c' u' = if c' = c then [] else wl l c' u' := by
  unfold wl
  rw [List.filter_filter]
  split
  · rename_i h
    rw [List.filter_eq_nil_iff]
    intro x _
    subst h
    simp [isWay, notOf]
    exact fun h1 _ => h1
  · rename_i h
    apply List.filter_congr
    intro x _
    simp [isWay, notOf]
    intro h1 _
    rw [h1]; exact h

/-- One of the client's grams can be put, if its way isn't full. -/
theorem putCode_ok {l : List G} {x : G} (h1 : 1 ≤ x.c) (h8 : x.c ≤ 8) (h : (wl l x.c x.u).length < 64) : putCode l x = 0 := by
  unfold putCode
  rw [cnt_wl]
  rw [if_neg (by omega), if_neg (by omega)]

theorem wl_length_le (l : List G) (c : Int) (u : Bool) : (wl l c u).length ≤ l.length := List.length_filter_le _ _
theorem pullL_length_le (l : List G) (i : Int) : (pullL l i).length ≤ l.length := by
  unfold pullL; split
  · rw [List.length_eraseIdx]; split <;> omega
  · omega
theorem copyL_length_le (l : List G) (c : Int) (u : Bool) (t : Int) : (copyL l c u t).length ≤ l.length + 1 := by
  unfold copyL; split
  · unfold putList; split <;> simp
  · omega
end Go.Proofs.Ytgfklingekiflaa
