/- PastParts's function is true at all inputs. -/
import Derived.Test.YtianblmceohmnaaOf
import Derived.Test.YtianblmceohmnaaPAllx19
namespace Go.Proofs.Ytianblmceohmnaa.Hand
open Go.RowKit Go.Proofs.Ytianblmceohmnaa.PAll Go.Proofs.YtianblmceohmnaaW.PrintWords
set_option linter.unusedVariables false
set_option linter.unusedSimpArgs false

section
variable (l : List S31) (L : List S43) (d : List S24) (P : List S45)
abbrev Next (B : Nat) (g : Nat → Option Bool) : Prop := ∀ c, B ≤ c → g c = some true

def cntT (d : List S24) (t : S24) : Nat := (d.filter (fun y => eq24 y t)).length
theorem cntT_yes {a t : S24} (d : List S24) (h : eq24 a t = true) : cntT (a :: d) t = cntT d t + 1 := by simp [cntT, h]
theorem cntT_no {a t : S24} (d : List S24) (h : ¬ eq24 a t = true) : cntT (a :: d) t = cntT d t := by simp [cntT, h]
theorem parts5 (hl : l.length ≤ 1000) (hd : d.length ≤ 1000) (i6 : Nat) (h6 : i6 < l.length) (e b : Bool) (hne : e ≠ b) (B : Nat) (hnext : Next B fun c => seneschallaw17_PastParts.l2 c l ((i6 + 1 : Nat) : Int) L d P) :
    ∀ (n i m : Nat), i + n = d.length → m ≤ i → m + cntT (d.drop i) l[i6].f1 ≤ 1 → (m + cntT (d.drop i) l[i6].f1 = 1 → e = true) → Next (n + 1 + B) fun c => seneschallaw17_PastParts.l5 c l (i6 : Int) e b (m : Int) (i : Int) L d P
  | 0, i, m, h, hm, k1, k2, c, hc => by
    obtain ⟨c, rfl⟩ : ∃ c', c = c' + 1 := ⟨c - 1, by omega⟩
    show seneschallaw17_PastParts.l5 (c + 1) _ _ _ _ _ _ _ _ _ = _
    rw [List.drop_eq_nil_of_le (by omega)] at k1 k2
    have hz : cntT [] l[i6].f1 = 0 := rfl
    rw [hz] at k1 k2
    rw [seneschallaw17_PastParts.l5, if_neg (by omega), if_neg (by simpa using hne), if_neg (by omega), wrap_succ (by omega)]
    split
    · rw [if_pos (k2 (by omega))]
      exact hnext c (by omega)
    · exact hnext c (by omega)
  | n + 1, i, m, h, hm, k1, k2, c, hc => by
    obtain ⟨c, rfl⟩ : ∃ c', c = c' + 1 := ⟨c - 1, by omega⟩
    show seneschallaw17_PastParts.l5 (c + 1) _ _ _ _ _ _ _ _ _ = _
    have hi : i < d.length := by omega
    rw [seneschallaw17_PastParts.l5, if_pos (by omega), if_pos (by omega), if_pos (by omega), if_pos (by omega), rd31 h6, rd24 hi, wrap_succ (by omega), wrap_succ (by omega)]
    rw [List.drop_eq_getElem_cons hi] at k1 k2
    by_cases he : eq24 d[i] l[i6].f1 = true
    · have hcn : cntT (d[i] :: d.drop (i + 1)) l[i6].f1 = cntT (d.drop (i + 1)) l[i6].f1 + 1 := cntT_yes _ he
      rw [hcn] at k1 k2
      rw [if_pos (show (d[i].f0 == l[i6].f1.f0 && (d[i].f1 == l[i6].f1.f1 && d[i].f2 == l[i6].f1.f2)) = true from he)]
      exact parts5 hl hd i6 h6 e b hne B hnext n (i + 1) (m + 1) (by omega) (by omega) (by omega) (fun q => k2 (by omega)) c (by omega)
    · have hcn : cntT (d[i] :: d.drop (i + 1)) l[i6].f1 = cntT (d.drop (i + 1)) l[i6].f1 := cntT_no _ he
      rw [hcn] at k1 k2
      rw [if_neg (show ¬ (d[i].f0 == l[i6].f1.f0 && (d[i].f1 == l[i6].f1.f1 && d[i].f2 == l[i6].f1.f2)) = true from he)]
      exact parts5 hl hd i6 h6 e b hne B hnext n (i + 1) m (by omega) (by omega) (by omega) (fun q => k2 (by omega)) c (by omega)

/-- Whether one is told as a loser, by its last entry. -/
def isL (L : List S43) (t : S24) (last : Int) : Bool := L.any (fun y => eq24 y.f0 t && y.f1 == last)
theorem isL_yes {a : S43} {t : S24} {v : Int} (L : List S43) (h : eq24 a.f0 t = true) : isL (a :: L) t v = (a.f1 == v || isL L t v) := by simp [isL, h]
theorem isL_no {a : S43} {t : S24} {v : Int} (L : List S43) (h : ¬ eq24 a.f0 t = true) : isL (a :: L) t v = isL L t v := by simp [isL, h]
theorem parts4 (hl : l.length ≤ 1000) (hL : L.length ≤ 1000) (i6 : Nat) (h6 : i6 < l.length) (e : Bool) (own pre : List S31) (z : S31) (ho : own = pre ++ [z]) (hol : own.length ≤ 1000) (B : Nat) (fin : Bool)
    (hnext : Next B fun c => seneschallaw17_PastParts.l5 c l (i6 : Int) e fin 0 0 L d P) :
    ∀ (n i : Nat) (b : Bool), i + n = L.length → (b || isL (L.drop i) l[i6].f1 z.f2) = fin → Next (n + 1 + B) fun c => seneschallaw17_PastParts.l4 c l (i6 : Int) own e b (i : Int) L d P
  | 0, i, b, h, hb, c, hc => by
    obtain ⟨c, rfl⟩ : ∃ c', c = c' + 1 := ⟨c - 1, by omega⟩
    show seneschallaw17_PastParts.l4 (c + 1) _ _ _ _ _ _ _ _ _ = _
    rw [List.drop_eq_nil_of_le (by omega)] at hb
    have : b = fin := by simpa [isL] using hb
    subst this
    rw [seneschallaw17_PastParts.l4, if_neg (by omega)]
    exact hnext c (by omega)
  | n + 1, i, b, h, hb, c, hc => by
    obtain ⟨c, rfl⟩ : ∃ c', c = c' + 1 := ⟨c - 1, by omega⟩
    show seneschallaw17_PastParts.l4 (c + 1) _ _ _ _ _ _ _ _ _ = _
    have hi : i < L.length := by omega
    have hown : own.length = pre.length + 1 := by rw [ho]; simp
    rw [List.drop_eq_getElem_cons hi] at hb
    rw [seneschallaw17_PastParts.l4, if_pos (by omega), wrap_succ (by omega)]
    cases b with
    | true =>
      rw [if_pos rfl]
      exact parts4 hl hL i6 h6 e own pre z ho hol B fin hnext n (i + 1) true (by omega) (by simpa using hb) c (by omega)
    | false =>
      rw [if_neg (by simp), if_pos (by omega), if_pos (by omega), if_pos (by omega), rd43 hi, rd31 h6]
      by_cases he : eq24 L[i].f0 l[i6].f1 = true
      · rw [if_pos (show (L[i].f0.f0 == l[i6].f1.f0 && (L[i].f0.f1 == l[i6].f1.f1 && L[i].f0.f2 == l[i6].f1.f2)) = true from he)]
        have hw : wrap64 ((own.length : Int) - 1) = (pre.length : Int) := by rw [hown]; exact wrap_pred (by omega)
        have hz : rd_T31 own (pre.length : Int) = z := by rw [rd31 (by omega)]; simp [ho]
        rw [hw, if_pos (by omega), if_pos (by omega), hz]
        refine parts4 hl hL i6 h6 e own pre z ho hol B fin hnext n (i + 1) _ (by omega) ?_ c (by omega)
        rw [← hb, isL_yes _ he, Bool.false_or]
      · rw [if_neg (show ¬ (L[i].f0.f0 == l[i6].f1.f0 && (L[i].f0.f1 == l[i6].f1.f1 && L[i].f0.f2 == l[i6].f1.f2)) = true from he)]
        refine parts4 hl hL i6 h6 e own pre z ho hol B fin hnext n (i + 1) _ (by omega) ?_ c (by omega)
        rw [← hb, isL_no _ he]

theorem parts3 (hl : l.length ≤ 1000) (i6 : Nat) (own : List S31) (hol : own.length ≤ 1000) (B : Nat) (fin : Bool)
    (hnext : Next B fun c => seneschallaw17_PastParts.l4 c l (i6 : Int) own fin false 0 L d P) :
    ∀ (n i : Nat) (b : Bool), i + n = own.length → (b || (own.drop i).any isEnd) = fin → Next (n + 1 + B) fun c => seneschallaw17_PastParts.l3 c l (i6 : Int) own b (i : Int) L d P
  | 0, i, b, h, hb, c, hc => by
    obtain ⟨c, rfl⟩ : ∃ c', c = c' + 1 := ⟨c - 1, by omega⟩
    show seneschallaw17_PastParts.l3 (c + 1) _ _ _ _ _ _ _ _ = _
    rw [List.drop_eq_nil_of_le (by omega)] at hb
    have : b = fin := by simpa using hb
    subst this
    rw [seneschallaw17_PastParts.l3, if_neg (by omega)]
    exact hnext c (by omega)
  | n + 1, i, b, h, hb, c, hc => by
    obtain ⟨c, rfl⟩ : ∃ c', c = c' + 1 := ⟨c - 1, by omega⟩
    show seneschallaw17_PastParts.l3 (c + 1) _ _ _ _ _ _ _ _ = _
    have hi : i < own.length := by omega
    rw [List.drop_eq_getElem_cons hi] at hb
    rw [seneschallaw17_PastParts.l3, if_pos (by omega), wrap_succ (by omega)]
    cases b with
    | true =>
      rw [if_pos rfl]
      exact parts3 hl i6 own hol B fin hnext n (i + 1) true (by omega) (by simpa using hb) c (by omega)
    | false =>
      rw [if_neg (by simp), if_pos (by omega), rd31 hi]
      simp only [List.any_cons, Bool.false_or] at hb
      by_cases h3 : own[i].f0 = 3
      · rw [if_pos h3]
        refine parts3 hl i6 own hol B fin hnext n (i + 1) true (by omega) ?_ c (by omega)
        rw [← hb]
        simp [isEnd, h3]
      · rw [if_neg h3]
        refine parts3 hl i6 own hol B fin hnext n (i + 1) _ (by omega) ?_ c (by omega)
        rw [← hb]
        have : (own[i].f0 == 3) = false := by simpa using h3
        simp [isEnd, this]

/-- What the law asks of each good entry. -/
def PartOk (l : List S31) (L : List S43) (d : List S24) (x : S31) : Prop :=
  ∃ pre z, ofF l x.f1 = pre ++ [z] ∧ atEnd l x.f1 ≠ isL L x.f1 z.f2 ∧ cntT d x.f1 ≤ 1 ∧ (cntT d x.f1 = 1 → atEnd l x.f1 = true)
theorem parts2 (hl : l.length ≤ 200) (hL : L.length ≤ 200) (hd : d.length ≤ 200) (hok : ∀ x ∈ l, good x = true → PartOk l L d x) :
    ∀ (n i : Nat), i + n = l.length → Next (big n) fun c => seneschallaw17_PastParts.l2 c l (i : Int) L d P := by
  intro n
  induction n with
  | zero =>
    intro i h c hc
    rw [big_zero] at hc
    obtain ⟨c, rfl⟩ : ∃ c', c = c' + 1 := ⟨c - 1, by omega⟩
    show seneschallaw17_PastParts.l2 (c + 1) _ _ _ _ _ = _
    rw [seneschallaw17_PastParts.l2, if_neg (by omega)]
  | succ n ihn =>
    intro i h c hc
    rw [big_succ] at hc
    have hbig : 1000 ≤ big n := by unfold big; omega
    obtain ⟨c, rfl⟩ : ∃ c', c = c' + 1 := ⟨c - 1, by omega⟩
    show seneschallaw17_PastParts.l2 (c + 1) _ _ _ _ _ = _
    have hi : i < l.length := by omega
    have ih := ihn (i + 1) (by omega)
    rw [seneschallaw17_PastParts.l2, if_pos (by omega), if_pos (by omega), rd31 hi, good_any c l[i] (by omega)]
    simp only [Option.bind_some]
    cases hg : good l[i] with
    | false =>
      rw [if_neg (by simp), wrap_succ (by omega)]
      exact ih c (by omega)
    | true =>
      rw [if_pos rfl, of_any l l[i].f1 (by omega) c (by omega)]
      simp only [Option.bind_some]
      obtain ⟨pre, z, ho, hne, hc1, hc2⟩ := hok l[i] (List.getElem_mem hi) hg
      have hol : (ofF l l[i].f1).length ≤ l.length := ofF_length _ _
      refine parts3 l L d P (by omega) i _ (by omega) (L.length + 1 + (d.length + 1 + (big n))) (atEnd l l[i].f1) (fun c hc => ?_) _ 0 false (Nat.zero_add _) (by rw [atEnd_ofF]; simp) c (by omega)
      refine parts4 l L d P (by omega) (by omega) i hi _ _ pre z ho (by omega) (d.length + 1 + (big n)) (isL L l[i].f1 z.f2) (fun c hc => ?_) L.length 0 false (Nat.zero_add _) (by simp) c hc
      exact parts5 l L d P (by omega) (by omega) i hi _ _ hne (big n) ih d.length 0 0 (Nat.zero_add _) (by omega) (by simpa using hc1) (by simpa using hc2) c hc
theorem parts1 (hP : P.length ≤ 1000) (hr : RiseP P) (B : Nat) (hnext : Next B fun c => seneschallaw17_PastParts.l2 c l 0 L d P) :
    ∀ (n i : Nat), i + 1 + n = max P.length 1 → Next (n + 1 + B) fun c => seneschallaw17_PastParts.l1 c l ((i + 1 : Nat) : Int) L d P
  | 0, i, h, c, hc => by
    obtain ⟨c, rfl⟩ : ∃ c', c = c' + 1 := ⟨c - 1, by omega⟩
    show seneschallaw17_PastParts.l1 (c + 1) _ _ _ _ _ = _
    rw [seneschallaw17_PastParts.l1, if_neg (by omega)]
    exact hnext c (by omega)
  | n + 1, i, h, c, hc => by
    obtain ⟨c, rfl⟩ : ∃ c', c = c' + 1 := ⟨c - 1, by omega⟩
    show seneschallaw17_PastParts.l1 (c + 1) _ _ _ _ _ = _
    have hi : i + 1 < P.length := by omega
    rw [seneschallaw17_PastParts.l1, if_pos (by omega), wrap_pred (by omega), if_pos (by omega), if_pos (by omega), if_pos (by omega), rd45 (by omega), rd45 hi, wrap_succ (by omega)]
    have := List.pairwise_iff_getElem.1 hr i (i + 1) (by omega) hi (by omega)
    rw [if_neg (by omega)]
    exact parts1 hP hr B hnext n (i + 1) (by omega) c (by omega)
theorem parts0 (hL : L.length ≤ 1000) (hr : RiseL L) (B : Nat) (hnext : Next B fun c => seneschallaw17_PastParts.l1 c l 1 L d P) :
    ∀ (n i : Nat), i + 1 + n = max L.length 1 → Next (n + 5 + B) fun c => seneschallaw17_PastParts.l0 c l ((i + 1 : Nat) : Int) L d P
  | 0, i, h, c, hc => by
    obtain ⟨c, rfl⟩ : ∃ c', c = c' + 1 := ⟨c - 1, by omega⟩
    show seneschallaw17_PastParts.l0 (c + 1) _ _ _ _ _ = _
    rw [seneschallaw17_PastParts.l0, if_neg (by omega)]
    exact hnext c (by omega)
  | n + 1, i, h, c, hc => by
    obtain ⟨c, rfl⟩ : ∃ c', c = c' + 5 := ⟨c - 5, by omega⟩
    show seneschallaw17_PastParts.l0 (c + 5) _ _ _ _ _ = _
    have hi : i + 1 < L.length := by omega
    rw [seneschallaw17_PastParts.l0, if_pos (by omega), wrap_pred (by omega), if_pos (by omega), if_pos (by omega), if_pos (by omega), rd43 (by omega), rd43 hi, wrap_succ (by omega), less_any c]
    have := List.pairwise_iff_getElem.1 hr i (i + 1) (by omega) hi (by omega)
    rw [decide_eq_true this]
    simp only [Option.bind_some, if_true]
    exact parts0 hL hr B hnext n (i + 1) (by omega) (c + 4) (by omega)
end

theorem cntT_le {d : List S24} (h : d.Nodup) (t : S24) : cntT d t ≤ 1 := by
  induction d with
  | nil => simp [cntT]
  | cons a d ih =>
    rw [List.nodup_cons] at h
    by_cases he : eq24 a t = true
    · have e := (eq24_iff _ _).1 he
      have : d.filter (fun y => eq24 y t) = [] := by
        rw [List.filter_eq_nil_iff]
        intro y hy hh
        exact h.1 (by rw [e, ← (eq24_iff _ _).1 hh]; exact hy)
      simp [cntT, he, this]
    · have := ih h.2
      simpa [cntT, he] using this
theorem cntT_mem {d : List S24} {t : S24} (h : cntT d t = 1) : t ∈ d := by
  unfold cntT at h
  have : d.filter (fun y => eq24 y t) ≠ [] := fun e => by rw [e] at h; simp at h
  obtain ⟨y, hy⟩ := List.exists_mem_of_ne_nil _ this
  rw [List.mem_filter] at hy
  rw [← (eq24_iff _ _).1 hy.2]
  exact hy.1
theorem last_of (l : List S31) {j : Nat} {x : S31} (h1 : l[j]? = some x) (h2 : good x = true) : ∃ m z, m < l.length ∧ l[m]? = some z ∧ good z = true ∧ z.f1 = x.f1 ∧ ∀ j' x', m < j' → j' < l.length → l[j']? = some x' → good x' = true → x'.f1 ≠ x.f1 := by
  have hex : ∀ n, n ≤ l.length → (∃ m z, l.length - n ≤ m ∧ m < l.length ∧ l[m]? = some z ∧ good z = true ∧ z.f1 = x.f1) → ∃ m z, m < l.length ∧ l[m]? = some z ∧ good z = true ∧ z.f1 = x.f1 ∧ ∀ j' x', m < j' → j' < l.length → l[j']? = some x' → good x' = true → x'.f1 ≠ x.f1 := by
    intro n
    induction n with
    | zero => rintro _ ⟨m, z, k1, k2, _⟩; omega
    | succ n ih =>
      rintro hn ⟨m, z, k1, k2, k3, k4, k5⟩
      rcases Classical.em (∃ m' z', l.length - n ≤ m' ∧ m' < l.length ∧ l[m']? = some z' ∧ good z' = true ∧ z'.f1 = x.f1) with h | h
      · exact ih (by omega) h
      · refine ⟨m, z, k2, k3, k4, k5, fun j' x' q1 q2 q3 q4 q5 => h ⟨j', x', by omega, q2, q3, q4, q5⟩⟩
  have hj := (List.getElem?_eq_some_iff.1 h1).1
  exact hex l.length (Nat.le_refl _) ⟨j, x, by omega, hj, h1, h2, rfl⟩
theorem part_ok (l : List S31) (x : S31) (hx : x ∈ l) (hg : good x = true) : PartOk l (vAt l 1 l.length).losers (vAt l 1 l.length).done x := by
  obtain ⟨j, hj, hjx⟩ := List.getElem_of_mem hx
  obtain ⟨m, z, k1, k2, k3, k4, k5⟩ := last_of l (List.getElem?_eq_some_iff.2 ⟨hj, hjx⟩) hg
  obtain ⟨pre, hp⟩ := ofF_last l x.f1 k2 k3 k4 k5
  refine ⟨pre, z, hp, ?_, cntT_le (done_nodup l 1 _) _, fun hc => ?_⟩
  · cases he : atEnd l x.f1 with
    | true =>
      intro e
      have e' := e.symm
      unfold isL at e'
      rw [List.any_eq_true] at e'
      obtain ⟨y, q1, q2⟩ := e'
      rw [Bool.and_eq_true] at q2
      obtain ⟨j', x', r1, r2, r3, r4, r5, _⟩ := (losers_mem l 1 _ y).1 q1
      have := (eq24_iff _ _).1 q2.1
      rw [r5] at this
      rw [show x'.f1 = x.f1 from this, he] at r4
      cases r4
    | false =>
      intro e
      have e' := e.symm
      unfold isL at e'
      rw [List.any_eq_false] at e'
      have hm := (losers_mem l 1 l.length ⟨z.f1, z.f2⟩).2 ⟨m, z, k1, k2, k3, by rw [k4]; exact he, rfl, fun j' x' q1 q2 q3 q4 => by rw [k4]; exact k5 j' x' q1 q2 q3 q4⟩
      refine e' _ hm ?_
      rw [(eq24_iff _ _).2 (show (⟨z.f1, z.f2⟩ : S43).f0 = x.f1 from k4)]
      simp
  · obtain ⟨j', x', r1, r2, r3, r4, r5⟩ := (done_mem l 1 x.f1 _).1 (cntT_mem hc)
    unfold atEnd
    rw [List.any_eq_true]
    obtain ⟨q1, q2⟩ := List.getElem?_eq_some_iff.1 r2
    refine ⟨x', by rw [← q2]; exact List.getElem_mem q1, ?_⟩
    rw [r3, (eq24_iff _ _).2 r5]
    simp [isEnd, r4]
theorem past_parts_any (l : List S31) (K : Nat) (hK : 100000 ≤ K) : seneschallaw17_PastParts.f K l = some true := by
  obtain ⟨b, hb, hb2⟩ := great_some l
  by_cases hbt : b = true
  · subst hbt
    by_cases hl : l.length ≤ 80
    · unfold seneschallaw17_PastParts.f
      rw [show seneschallaw17_awake.f = some true from rfl]
      simp only [Option.bind_some, if_true]
      rw [hb K (by omega)]
      simp
    · unfold seneschallaw17_PastParts.f
      rw [show seneschallaw17_awake.f = some true from rfl]
      simp only [Option.bind_some, if_true]
      unfold seneschallaw17_great.f
      rw [if_pos (show (l.length : Int) > 80 by omega)]
      simp
  · obtain rfl : b = false := by simpa using hbt
    have hl := hb2 rfl
    unfold seneschallaw17_PastParts.f
    rw [show seneschallaw17_awake.f = some true from rfl]
    simp only [Option.bind_some, if_true]
    rw [hb K (by omega)]
    simp only [Option.bind_some, Bool.false_eq_true, if_false]
    unfold past_Read.f
    rw [if_pos (show l.length ≤ 400 by omega), if_pos (show isFirst 1 = true by decide)]
    simp only [Option.bind_some]
    have n1 := losers_len l 1 l.length
    have n2 := done_length l 1 l.length
    have n3 := pages_length l 1 l.length
    have hok := part_ok l
    have r1 := riseL_at l 1 l.length
    have r2 := riseP_at l 1 l.length
    generalize (vAt l 1 l.length).losers = L at *
    generalize (vAt l 1 l.length).done = d at *
    generalize (vAt l 1 l.length).pages = P at *
    have hbig : big l.length ≤ 90000 := by unfold big; omega
    refine parts0 l L d P (by omega) r1 (max P.length 1 - 1 + 1 + (big l.length)) (fun c hc => ?_) (max L.length 1 - 1) 0 (by omega) K (by omega)
    refine parts1 l L d P (by omega) r2 (big l.length) (fun c hc => ?_) (max P.length 1 - 1) 0 (by omega) c hc
    exact parts2 l L d P (by omega) (by omega) (by omega) hok l.length 0 (by omega) c hc
theorem past_parts (l : List S31) : ∃ k, seneschallaw17_PastParts.f k l = some true := ⟨_, past_parts_any l 100000 (Nat.le_refl _)⟩
/-- The row's walk. -/
theorem pastParts_row (W : World) (A : Option Addr) (cap : Nat) (l : List S31) (h : Kd.C k31 W A l.length l) (hc : l.length ≤ cap) :
    Calls Try.prog 4 #[.slice A l.length cap] W fun e W' => e = .returned (.bool true) ∧ Below W.heap.size W W' := by
  obtain ⟨k, hk⟩ := past_parts l
  exact seneschallaw17_PastParts.calls k A cap l true W h hc hk
end Go.Proofs.Ytianblmceohmnaa.Hand
