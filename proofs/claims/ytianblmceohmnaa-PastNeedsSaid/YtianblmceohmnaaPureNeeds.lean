/- PastNeeds's function is true at all inputs. -/
import Derived.Test.YtianblmceohmnaaFacts
import Derived.Test.YtianblmceohmnaaPAllx18
namespace Go.Proofs.Ytianblmceohmnaa.Hand
open Go.RowKit Go.Proofs.Ytianblmceohmnaa.PAll Go.Proofs.YtianblmceohmnaaW.PrintWords
set_option linter.unusedVariables false
set_option linter.unusedSimpArgs false

theorem sub_of_rise {α : Type} {lt : α → α → Prop} (ir : ∀ x, ¬ lt x x) (tr : ∀ x y z, lt x y → lt y z → lt x z) : ∀ (W L : List α), L.Pairwise lt → W.Pairwise lt → (∀ y ∈ L, y ∈ W) → List.Sublist L W
  | [], L, _, _, h => by
    cases L with
    | nil => exact List.Sublist.slnil
    | cons a L => exact absurd (h a (by simp)) (by simp)
  | b :: W, [], _, _, _ => List.nil_sublist _
  | b :: W, a :: L, hL, hW, h => by
    rw [List.pairwise_cons] at hW
    have hL' := hL
    rw [List.pairwise_cons] at hL
    rcases Classical.em (a = b) with e | e
    · subst e
      refine List.Sublist.cons_cons _ (sub_of_rise ir tr W L hL.2 hW.2 fun y hy => ?_)
      have := h y (by simp [hy])
      rw [List.mem_cons] at this
      rcases this with h1 | h1
      · subst h1; exact absurd (hL.1 y hy) (ir y)
      · exact h1
    · have ha : a ∈ W := by
        have := h a (by simp)
        rw [List.mem_cons] at this
        exact this.resolve_left e
      refine List.Sublist.cons _ (sub_of_rise ir tr W (a :: L) hL' hW.2 fun y hy => ?_)
      have := h y hy
      rw [List.mem_cons] at this
      rcases this with h1 | h1
      · subst h1
        rw [List.mem_cons] at hy
        rcases hy with h2 | h2
        · exact absurd h2.symm e
        · exact absurd (tr _ _ _ (hL.1 y h2) (hW.1 a ha)) (ir a)
      · exact h1

def eq43 (a b : S43) : Bool := (a.f0.f0 == b.f0.f0 && (a.f0.f1 == b.f0.f1 && (a.f0.f2 == b.f0.f2))) && (a.f1 == b.f1)
theorem eq43_iff (a b : S43) : eq43 a b = true ↔ a = b := by
  obtain ⟨⟨a0, a1, a2⟩, a3⟩ := a
  obtain ⟨⟨b0, b1, b2⟩, b3⟩ := b
  simp [eq43]

theorem sub_skip {α : Type} {a b : α} {l m : List α} (h : a ≠ b) (hs : List.Sublist (a :: l) (b :: m)) : List.Sublist (a :: l) m := by
  cases hs with
  | cons _ h => exact h
  | cons_cons _ h' => exact absurd rfl h

/-- The count of those found, one behind the other. -/
theorem found_all (L W : List S43) (d0 : List S24) (p0 : List S45) (d1 : List S24) (p1 : List S45) (hW : W.length ≤ 1000) (hL : L.length ≤ 1000) : ∀ (n i k : Nat), i + n = W.length → k ≤ L.length → List.Sublist (L.drop k) (W.drop i) →
    ∀ c, 2 * n + 2 ≤ c → seneschallaw17_PastNeeds.l0 c (k : Int) (i : Int) L d0 p0 W d1 p1 = some true
  | 0, i, k, h, hk, hs, c, hc => by
    obtain ⟨c, rfl⟩ : ∃ c', c = c' + 2 := ⟨c - 2, by omega⟩
    have hd : W.drop i = [] := List.drop_eq_nil_of_le (by omega)
    rw [hd] at hs
    have := List.sublist_nil.1 hs
    have hl : L.length ≤ k := by simpa using this
    rw [seneschallaw17_PastNeeds.l0, if_neg (by omega), seneschallaw17_PastNeeds.j3]
    simp
    omega
  | n + 1, i, k, h, hk, hs, c, hc => by
    obtain ⟨c, rfl⟩ : ∃ c', c = c' + 2 := ⟨c - 2, by omega⟩
    have hi : i < W.length := by omega
    rw [seneschallaw17_PastNeeds.l0, if_pos (by omega), seneschallaw17_PastNeeds.j3]
    by_cases hk2 : k < L.length
    · rw [if_pos (by simpa using hk2), if_pos (by omega), if_pos (by omega), if_pos (by omega), if_pos (by omega)]
      have hw : rd_T43 W (i : Int) = W[i] := by simp [rd_T43, List.getD, hi]
      have hl : rd_T43 L (k : Int) = L[k] := by simp [rd_T43, List.getD, hk2]
      rw [hw, hl]
      have wi : wrap64 ((i : Int) + 1) = ((i + 1 : Nat) : Int) := by unfold wrap64; omega
      have wk : wrap64 ((k : Int) + 1) = ((k + 1 : Nat) : Int) := by unfold wrap64; omega
      rw [wi, wk]
      rw [List.drop_eq_getElem_cons hi, List.drop_eq_getElem_cons hk2] at hs
      by_cases he : eq43 W[i] L[k] = true
      · have e := (eq43_iff _ _).1 he
        have he' : ((W[i].f0.f0 == L[k].f0.f0 && (W[i].f0.f1 == L[k].f0.f1 && (W[i].f0.f2 == L[k].f0.f2))) && (W[i].f1 == L[k].f1)) = true := he
        rw [if_pos he']
        rw [e] at hs
        exact found_all L W d0 p0 d1 p1 hW hL n (i + 1) (k + 1) (by omega) (by omega) (List.cons_sublist_cons.1 hs) c (by omega)
      · have he' : ¬ ((W[i].f0.f0 == L[k].f0.f0 && (W[i].f0.f1 == L[k].f0.f1 && (W[i].f0.f2 == L[k].f0.f2))) && (W[i].f1 == L[k].f1)) = true := he
        rw [if_neg he']
        refine found_all L W d0 p0 d1 p1 hW hL n (i + 1) k (by omega) (by omega) ?_ c (by omega)
        rw [List.drop_eq_getElem_cons hk2]
        exact sub_skip (fun e => he ((eq43_iff _ _).2 e.symm)) hs
    · have : decide ((k : Int) < (L.length : Int)) = false := by simp; omega
      rw [this]
      simp
      omega

theorem atEnd_drop (l : List S31) (i : Nat) (t : S24) (h : atEnd l t = false) : atEnd (l.drop i) t = false := by
  unfold atEnd at *
  rw [List.any_eq_false] at *
  exact fun y hy => h y (List.mem_of_mem_drop hy)
/-- What is cut off ahead of the first entry that is needed leaves the losers. -/
theorem losers_drop (l : List S31) (a b : Int) (i : Nat) (hf : ∀ j y, j < i → l[j]? = some y → wanted l y = false) : ∀ y ∈ (vAt l a l.length).losers, y ∈ (vAt (l.drop i) b (l.drop i).length).losers := by
  intro y hy
  obtain ⟨j, x, h1, h2, h3, h4, h5, h6⟩ := (losers_mem l a l.length y).1 hy
  have hij : i ≤ j := by
    rcases Nat.lt_or_ge j i with h | h
    · have := hf j x h h2
      simp [wanted, h3, h4] at this
    · exact h
  refine (losers_mem _ b _ y).2 ⟨j - i, x, by simp; omega, by rw [List.getElem?_drop]; rw [show i + (j - i) = j by omega]; exact h2, h3, atEnd_drop l i _ h4, h5, fun j' x' k1 k2 k3 k4 => ?_⟩
  rw [List.getElem?_drop] at k3
  exact h6 (i + j') x' (by omega) (by simp at k2; omega) k3 k4
theorem losers_some (l : List S31) (a : Int) {j : Nat} {x : S31} (h1 : l[j]? = some x) (h2 : wanted l x = true) : (vAt l a l.length).losers ≠ [] := by
  -- the last good entry of that transaction
  have hex : ∀ n, n ≤ l.length → (∃ m z, l.length - n ≤ m ∧ m < l.length ∧ l[m]? = some z ∧ good z = true ∧ z.f1 = x.f1) → ∃ m z, m < l.length ∧ l[m]? = some z ∧ good z = true ∧ z.f1 = x.f1 ∧ ∀ j' x', m < j' → j' < l.length → l[j']? = some x' → good x' = true → x'.f1 ≠ x.f1 := by
    intro n
    induction n with
    | zero => rintro _ ⟨m, z, k1, k2, _⟩; omega
    | succ n ih =>
      rintro hn ⟨m, z, k1, k2, k3, k4, k5⟩
      rcases Classical.em (∃ m' z', l.length - n ≤ m' ∧ m' < l.length ∧ l[m']? = some z' ∧ good z' = true ∧ z'.f1 = x.f1) with h | h
      · exact ih (by omega) h
      · refine ⟨m, z, k2, k3, k4, k5, fun j' x' q1 q2 q3 q4 q5 => h ⟨j', x', by omega, q2, q3, q4, q5⟩⟩
  simp [wanted] at h2
  have hj := (List.getElem?_eq_some_iff.1 h1).1
  obtain ⟨m, z, k1, k2, k3, k4, k5⟩ := hex l.length (Nat.le_refl _) ⟨j, x, by omega, hj, h1, h2.1, rfl⟩
  have hm := (losers_mem l a l.length ⟨z.f1, z.f2⟩).2 ⟨m, z, k1, k2, k3, by rw [k4]; exact h2.2, rfl, fun j' x' q1 q2 q3 q4 => by rw [k4]; exact k5 j' x' q1 q2 q3 q4⟩
  intro e
  rw [e] at hm
  simp at hm
theorem losers_none (l : List S31) (a : Int) (h : ∀ x ∈ l, wanted l x = false) : (vAt l a l.length).losers = [] := by
  cases hl : (vAt l a l.length).losers with
  | nil => rfl
  | cons y r =>
    obtain ⟨j, x, h1, h2, h3, h4, _⟩ := (losers_mem l a l.length y).1 (by rw [hl]; simp)
    have := h x (by obtain ⟨q1, q2⟩ := List.getElem?_eq_some_iff.1 h2; rw [← q2]; simp)
    simp [wanted, h3, h4] at this

theorem insL_length (t : S24) (v : Int) : ∀ L, (insL t v L).length ≤ L.length + 1
  | [] => by simp [insL]
  | y :: r => by
    unfold insL
    split
    · simp
    · split
      · simp
      · have := insL_length t v r
        simp; omega
theorem losers_length (l : List S31) (a : Int) : ∀ i, (vAt l a i).losers.length ≤ i
  | 0 => by simp [vAt]
  | i + 1 => by
    have ih := losers_length l a i
    rw [vAt]
    cases l[i]? with
    | none => dsimp only; omega
    | some x =>
      dsimp only
      unfold vstep
      split
      · dsimp only
        split
        · omega
        · have := insL_length x.f1 x.f2 (vAt l a i).losers
          omega
      · omega
theorem sub_length {α : Type} {L W : List α} (h : List.Sublist L W) : L.length ≤ W.length := h.length_le

theorem needs_first (a : Int) : ∃ c : Int, wrap64 (1 + wrap64 (Int.tmod (IntKind.u64.wrap a) 1000)) = c ∧ 1 ≤ c ∧ c ≤ 1000 := by
  refine ⟨_, rfl, ?_⟩
  have h0 : 0 ≤ IntKind.u64.wrap a := by
    show 0 ≤ a % 18446744073709551616
    omega
  generalize IntKind.u64.wrap a = b at h0 ⊢
  have h1 : Int.tmod b 1000 = b % 1000 := Int.tmod_eq_emod_of_nonneg h0
  rw [h1]
  unfold wrap64
  omega

theorem past_needs (l : List S31) (a : Int) : ∃ k, seneschallaw17_PastNeeds.f k l a = some true := by
  obtain ⟨b, hb, hb2⟩ := great_some l
  obtain ⟨c, hc, c1, c2⟩ := needs_first a
  refine ⟨400, ?_⟩
  by_cases hbt : b = true
  · subst hbt
    by_cases hl : l.length ≤ 80
    · unfold seneschallaw17_PastNeeds.f
      rw [show seneschallaw17_awake.f = some true from rfl]
      simp only [Option.bind_some, if_true]
      rw [hb 400 (by omega)]
      simp
    · unfold seneschallaw17_PastNeeds.f
      rw [show seneschallaw17_awake.f = some true from rfl]
      simp only [Option.bind_some, if_true]
      unfold seneschallaw17_great.f
      rw [if_pos (show (l.length : Int) > 80 by omega)]
      simp
  · obtain rfl : b = false := by simpa using hbt
    have hl := hb2 rfl
    have hf : ∀ d : Nat, d ≤ 80 → isFirst (c + d) = true := fun d hd => by unfold isFirst; simp; omega
    have hf0 : isFirst c = true := by have := hf 0 (by omega); simpa using this
    unfold seneschallaw17_PastNeeds.f
    rw [show seneschallaw17_awake.f = some true from rfl]
    simp only [Option.bind_some, if_true]
    rw [hb 400 (by omega), hc]
    simp only [Option.bind_some, Bool.false_eq_true, if_false]
    unfold past_Needed.f past_Read.f
    rw [if_pos (show l.length ≤ 400 by omega), if_pos (show l.length ≤ 400 by omega), hf0]
    simp only [Option.bind_some, if_true]
    cases hn : l.findIdx? (wanted l) with
    | none =>
      have h0 : ∀ x ∈ l, wanted l x = false := by
        have := List.findIdx?_eq_none_iff.1 hn
        exact fun x hx => by simpa using this x hx
      rw [needF_none h0, if_pos rfl, losers_none l c h0]
      rfl
    | some i =>
      obtain ⟨hi, hw, hfr⟩ := List.findIdx?_eq_some_iff_getElem.1 hn
      have hnd : needF l c = c + i := by unfold needF; rw [hf0, hn]; rfl
      rw [hnd, if_neg (by omega), if_neg (by omega)]
      have w1 : wrap64 (c + (i : Int) - c) = (i : Int) := by unfold wrap64; omega
      rw [w1]
      have hd : decide ((i : Int) ≥ (l.length : Int)) = false := by simp; omega
      rw [hd]
      rw [show (400 : Nat) = 399 + 1 from rfl, seneschallaw17_PastNeeds.j0, w1, if_neg (by simp), if_pos (by omega), if_pos (by omega)]
      have hld : (l.drop (Int.toNat (i : Int))).length ≤ 400 := by simp; omega
      unfold past_Read.f
      rw [if_pos hld, hf i (by omega)]
      simp only [Option.bind_some, if_true, Int.toNat_natCast]
      have hsome := losers_some l c (List.getElem?_eq_getElem hi) hw
      have hfr' : ∀ j y, j < i → l[j]? = some y → wanted l y = false := fun j y hj hy => by
        obtain ⟨q1, q2⟩ := List.getElem?_eq_some_iff.1 hy
        have := hfr j hj
        rw [q2] at this
        simpa using this
      have hsub := sub_of_rise (lt := fun a b : S43 => Lt24 a.f0 b.f0) (fun x => Lt24.irrefl _) (fun x y z => Lt24.trans _ _ _) _ _ (riseL_at l c l.length) (riseL_at (l.drop i) (c + i) (l.drop i).length) (losers_drop l c (c + i) i hfr')
      have hlen := sub_length hsub
      have n1 : ((vAt l c l.length).losers).length ≤ l.length := losers_length l c _
      have n2 : ((vAt (l.drop i) (c + i) (l.drop i).length).losers).length ≤ (l.drop i).length := losers_length _ _ _
      have n3 : (l.drop i).length ≤ 80 := by simp; omega
      generalize hL : (vAt l c l.length).losers = L at *
      generalize hW : (vAt (l.drop i) (c + i) (l.drop i).length).losers = Wl at *
      have hpos : L.length ≠ 0 := fun e => hsome (List.eq_nil_of_length_eq_zero e)
      rw [if_neg (by omega)]
      have hd2 : decide ((Wl.length : Int) < (L.length : Int)) = false := by simp; omega
      rw [hd2, show (399 : Nat) = 398 + 1 from rfl, seneschallaw17_PastNeeds.j1, if_neg (by simp)]
      exact found_all L Wl _ _ _ _ (by omega) (by omega) Wl.length 0 0 (by omega) (by omega) (by simpa using hsub) _ (by omega)
/-- The row's walk. -/
theorem pastNeeds_row (W : World) (A : Option Addr) (cap : Nat) (l : List S31) (a : Int) (h : Kd.C k31 W A l.length l) (hc : l.length ≤ cap) :
    Calls Try.prog 5 #[.slice A l.length cap, .int .i64 a] W fun e W' => e = .returned (.bool true) ∧ Below W.heap.size W W' := by
  obtain ⟨k, hk⟩ := past_needs l a
  exact seneschallaw17_PastNeeds.calls k A cap l a true W h hc hk
end Go.Proofs.Ytianblmceohmnaa.Hand
