/- PastJoins's function is true at all inputs. -/
import Derived.Test.YtianblmceohmnaaOf
import Derived.Test.YtianblmceohmnaaPAllx21
namespace Go.Proofs.Ytianblmceohmnaa.Hand
open Go.RowKit Go.Proofs.Ytianblmceohmnaa.PAll Go.Proofs.YtianblmceohmnaaW.PrintWords
set_option linter.unusedVariables false
set_option linter.unusedSimpArgs false
set_option maxRecDepth 10000

abbrev Nxt (B : Nat) (g : Nat → Option Bool) : Prop := ∀ c, B ≤ c → g c = some true
def foldP (P : List S45) (p n : Int) : Int := P.foldl (fun n y => if y.f0 = p then y.f1 else n) n
theorem foldP_none {P : List S45} {p : Int} (h : ∀ y ∈ P, y.f0 ≠ p) (n : Int) : foldP P p n = n := by
  induction P with
  | nil => rfl
  | cons a P ih =>
    unfold foldP
    rw [List.foldl_cons, if_neg (h a (by simp))]
    exact ih (fun y hy => h y (by simp [hy]))
theorem foldP_mem {P : List S45} {p m : Int} (hr : RiseP P) (h : (⟨p, m⟩ : S45) ∈ P) : ∀ n, foldP P p n = m := by
  induction P with
  | nil => simp at h
  | cons a P ih =>
    intro n
    unfold RiseP at hr
    rw [List.pairwise_cons] at hr
    unfold foldP
    rw [List.foldl_cons]
    rw [List.mem_cons] at h
    rcases h with h | h
    · subst h
      rw [if_pos rfl]
      refine foldP_none (fun y hy e => ?_) _
      have := hr.1 y hy
      simp at this
      omega
    · exact ih hr.2 h _

section
variable (L0 L1 L2 : List S43) (d0 d1 d2 : List S24) (P0 P1 P2 : List S45)
theorem joins5 (h0 : P0.length ≤ 1000) (h1 : P1.length ≤ 1000) (i13 : Nat) (h13 : i13 < P0.length) (B : Nat) (hnext : Nxt B fun c => seneschallaw17_PastJoins.l3 c ((i13 + 1 : Nat) : Int) L0 d0 P0 L1 d1 P1 L2 d2 P2) :
    ∀ (n i : Nat) (m : Int), i + n = P1.length → foldP (P1.drop i) P0[i13].f0 m = P0[i13].f1 → Nxt (n + 1 + B) fun c => seneschallaw17_PastJoins.l5 c (i13 : Int) m (i : Int) L0 d0 P0 L1 d1 P1 L2 d2 P2
  | 0, i, m, h, hm, c, hc => by
    obtain ⟨c, rfl⟩ : ∃ c', c = c' + 1 := ⟨c - 1, by omega⟩
    show seneschallaw17_PastJoins.l5 (c + 1) _ _ _ _ _ _ _ _ _ _ _ _ = _
    rw [List.drop_eq_nil_of_le (by omega)] at hm
    have hm' : m = P0[i13].f1 := hm
    rw [seneschallaw17_PastJoins.l5, if_neg (by omega), if_pos (by omega), if_pos (by omega), rd45 h13, if_pos hm', wrap_succ (by omega)]
    exact hnext c (by omega)
  | n + 1, i, m, h, hm, c, hc => by
    obtain ⟨c, rfl⟩ : ∃ c', c = c' + 1 := ⟨c - 1, by omega⟩
    show seneschallaw17_PastJoins.l5 (c + 1) _ _ _ _ _ _ _ _ _ _ _ _ = _
    have hi : i < P1.length := by omega
    rw [List.drop_eq_getElem_cons hi] at hm
    unfold foldP at hm
    rw [List.foldl_cons] at hm
    rw [seneschallaw17_PastJoins.l5, if_pos (by omega), if_pos (by omega), if_pos (by omega), if_pos (by omega), rd45 h13, rd45 hi, wrap_succ (by omega)]
    split
    · rename_i he
      rw [if_pos he] at hm
      exact joins5 h0 h1 i13 h13 B hnext n (i + 1) _ (by omega) hm c (by omega)
    · rename_i he
      rw [if_neg he] at hm
      exact joins5 h0 h1 i13 h13 B hnext n (i + 1) _ (by omega) hm c (by omega)
theorem joins4 (h0 : P0.length ≤ 1000) (h1 : P2.length ≤ 1000) (i13 : Nat) (h13 : i13 < P0.length) (B : Nat) (fin : Int) (hnext : Nxt B fun c => seneschallaw17_PastJoins.l5 c (i13 : Int) fin 0 L0 d0 P0 L1 d1 P1 L2 d2 P2) :
    ∀ (n i : Nat) (m : Int), i + n = P2.length → foldP (P2.drop i) P0[i13].f0 m = fin → Nxt (n + 1 + B) fun c => seneschallaw17_PastJoins.l4 c (i13 : Int) m (i : Int) L0 d0 P0 L1 d1 P1 L2 d2 P2
  | 0, i, m, h, hm, c, hc => by
    obtain ⟨c, rfl⟩ : ∃ c', c = c' + 1 := ⟨c - 1, by omega⟩
    show seneschallaw17_PastJoins.l4 (c + 1) _ _ _ _ _ _ _ _ _ _ _ _ = _
    rw [List.drop_eq_nil_of_le (by omega)] at hm
    have hm' : m = fin := hm
    subst hm'
    rw [seneschallaw17_PastJoins.l4, if_neg (by omega)]
    exact hnext c (by omega)
  | n + 1, i, m, h, hm, c, hc => by
    obtain ⟨c, rfl⟩ : ∃ c', c = c' + 1 := ⟨c - 1, by omega⟩
    show seneschallaw17_PastJoins.l4 (c + 1) _ _ _ _ _ _ _ _ _ _ _ _ = _
    have hi : i < P2.length := by omega
    rw [List.drop_eq_getElem_cons hi] at hm
    unfold foldP at hm
    rw [List.foldl_cons] at hm
    rw [seneschallaw17_PastJoins.l4, if_pos (by omega), if_pos (by omega), if_pos (by omega), if_pos (by omega), rd45 h13, rd45 hi, wrap_succ (by omega)]
    split
    · rename_i he
      rw [if_pos he] at hm
      exact joins4 h0 h1 i13 h13 B fin hnext n (i + 1) _ (by omega) hm c (by omega)
    · rename_i he
      rw [if_neg he] at hm
      exact joins4 h0 h1 i13 h13 B fin hnext n (i + 1) _ (by omega) hm c (by omega)
theorem joins3 (h0 : P0.length ≤ 200) (h1 : P1.length ≤ 200) (h2 : P2.length ≤ 200) (hok : ∀ y ∈ P0, foldP P1 y.f0 (foldP P2 y.f0 0) = y.f1) (q1 : P1.length ≤ P0.length) (q2 : P2.length ≤ P0.length) :
    ∀ (n i : Nat), i + n = P0.length → Nxt (big n) fun c => seneschallaw17_PastJoins.l3 c (i : Int) L0 d0 P0 L1 d1 P1 L2 d2 P2 := by
  intro n
  induction n with
  | zero =>
    intro i h c hc
    rw [big_zero] at hc
    obtain ⟨c, rfl⟩ : ∃ c', c = c' + 1 := ⟨c - 1, by omega⟩
    show seneschallaw17_PastJoins.l3 (c + 1) _ _ _ _ _ _ _ _ _ _ = _
    rw [seneschallaw17_PastJoins.l3, if_neg (by omega), if_pos (by omega)]
    simp
    omega
  | succ n ihn =>
    intro i h c hc
    rw [big_succ] at hc
    have hbig : 1000 ≤ big n := by unfold big; omega
    obtain ⟨c, rfl⟩ : ∃ c', c = c' + 1 := ⟨c - 1, by omega⟩
    show seneschallaw17_PastJoins.l3 (c + 1) _ _ _ _ _ _ _ _ _ _ = _
    have hi : i < P0.length := by omega
    have ih := ihn (i + 1) (by omega)
    rw [seneschallaw17_PastJoins.l3, if_pos (by omega)]
    refine joins4 L0 L1 L2 d0 d1 d2 P0 P1 P2 (by omega) (by omega) i hi (P1.length + 1 + (big n)) _ (fun c hc => ?_) P2.length 0 0 (Nat.zero_add _) rfl c (by omega)
    exact joins5 L0 L1 L2 d0 d1 d2 P0 P1 P2 (by omega) (by omega) i hi (big n) ih P1.length 0 _ (Nat.zero_add _) (by simpa using hok P0[i] (List.getElem_mem hi)) c hc
theorem joins2 (hd : d0.length ≤ 1000) (B : Nat) (hnext : Nxt B fun c => seneschallaw17_PastJoins.l3 c 0 L0 d0 P0 L1 d1 P1 L2 d2 P2) :
    ∀ (n i : Nat), i + n = d0.length → Nxt (n + 1 + B) fun c => seneschallaw17_PastJoins.l2 c d0 (i : Int) L0 d0 P0 L1 d1 P1 L2 d2 P2
  | 0, i, h, c, hc => by
    obtain ⟨c, rfl⟩ : ∃ c', c = c' + 1 := ⟨c - 1, by omega⟩
    show seneschallaw17_PastJoins.l2 (c + 1) _ _ _ _ _ _ _ _ _ _ _ = _
    rw [seneschallaw17_PastJoins.l2, if_neg (by omega)]
    exact hnext c (by omega)
  | n + 1, i, h, c, hc => by
    obtain ⟨c, rfl⟩ : ∃ c', c = c' + 1 := ⟨c - 1, by omega⟩
    show seneschallaw17_PastJoins.l2 (c + 1) _ _ _ _ _ _ _ _ _ _ _ = _
    rw [seneschallaw17_PastJoins.l2, if_pos (by omega), if_pos (by omega), if_pos (by omega), if_neg (by simp), wrap_succ (by omega)]
    exact joins2 hd B hnext n (i + 1) (by omega) c (by omega)
def hasR (l : List S24) (t : S24) : Bool := l.any (fun y => eq24 y t)
theorem hasR_cons (a : S24) (l : List S24) (t : S24) : hasR (a :: l) t = (eq24 a t || hasR l t) := rfl
theorem hasR_hasT (l : List S24) (t : S24) : hasR l t = hasT l t := by
  rw [Bool.eq_iff_iff, hasT_iff]
  unfold hasR
  rw [List.any_eq_true]
  constructor
  · rintro ⟨y, h1, h2⟩
    rw [← (eq24_iff _ _).1 h2]; exact h1
  · exact fun h => ⟨t, h, (eq24_iff _ _).2 rfl⟩
theorem joins1 (h1 : d1.length ≤ 1000) (h2 : d2.length ≤ 1000) (acc : List S24) (ha : acc.length ≤ 1000) (i9 : Nat) (h9 : i9 < d2.length) (B : Nat) (fin : Bool)
    (hnext : Nxt B fun c => seneschallaw17_PastJoins.l0 c (if fin then acc else acc ++ [d2[i9]]) ((i9 + 1 : Nat) : Int) L0 d0 P0 L1 d1 P1 L2 d2 P2) :
    ∀ (n i : Nat) (b : Bool), i + n = d1.length → (b || hasR (d1.drop i) d2[i9]) = fin → Nxt (n + 1 + B) fun c => seneschallaw17_PastJoins.l1 c acc (i9 : Int) b (i : Int) L0 d0 P0 L1 d1 P1 L2 d2 P2
  | 0, i, b, h, hb, c, hc => by
    obtain ⟨c, rfl⟩ : ∃ c', c = c' + 1 := ⟨c - 1, by omega⟩
    show seneschallaw17_PastJoins.l1 (c + 1) _ _ _ _ _ _ _ _ _ _ _ _ _ = _
    rw [List.drop_eq_nil_of_le (by omega)] at hb
    have : b = fin := by simpa [hasR] using hb
    subst this
    rw [seneschallaw17_PastJoins.l1, if_neg (by omega), wrap_succ (by omega)]
    have hn := hnext c (by omega)
    cases b with
    | true =>
      rw [if_pos rfl]
      exact hn
    | false =>
      rw [if_neg (by simp), if_pos (by omega), if_pos (by omega), if_pos (by omega), rd24 h9]
      exact hn
  | n + 1, i, b, h, hb, c, hc => by
    obtain ⟨c, rfl⟩ : ∃ c', c = c' + 1 := ⟨c - 1, by omega⟩
    show seneschallaw17_PastJoins.l1 (c + 1) _ _ _ _ _ _ _ _ _ _ _ _ _ = _
    have hi : i < d1.length := by omega
    rw [List.drop_eq_getElem_cons hi] at hb
    rw [seneschallaw17_PastJoins.l1, if_pos (by omega), wrap_succ (by omega)]
    cases b with
    | true =>
      rw [if_pos rfl]
      exact joins1 h1 h2 acc ha i9 h9 B fin hnext n (i + 1) true (by omega) (by simpa using hb) c (by omega)
    | false =>
      rw [if_neg (by simp), if_pos (by omega), if_pos (by omega), if_pos (by omega), rd24 h9, rd24 hi]
      refine joins1 h1 h2 acc ha i9 h9 B fin hnext n (i + 1) _ (by omega) ?_ c (by omega)
      rw [← hb, hasR_cons, Bool.false_or]
      rfl
theorem joins0 (h0 : d0.length ≤ 200) (h1 : d1.length ≤ 200) (h2 : d2.length ≤ 200) (B : Nat) (hnext : Nxt B fun c => seneschallaw17_PastJoins.l2 c d0 0 L0 d0 P0 L1 d1 P1 L2 d2 P2) :
    ∀ (n i : Nat) (acc : List S24), i + n = d2.length → acc.length ≤ 200 + i → acc ++ (d2.drop i).filter (fun t => !hasT d1 t) = d0 → Nxt (big n + B) fun c => seneschallaw17_PastJoins.l0 c acc (i : Int) L0 d0 P0 L1 d1 P1 L2 d2 P2 := by
  intro n
  induction n with
  | zero =>
    intro i acc h ha hd c hc
    rw [big_zero] at hc
    obtain ⟨c, rfl⟩ : ∃ c', c = c' + 1 := ⟨c - 1, by omega⟩
    show seneschallaw17_PastJoins.l0 (c + 1) _ _ _ _ _ _ _ _ _ _ _ = _
    rw [List.drop_eq_nil_of_le (by omega)] at hd
    have : acc = d0 := by simpa using hd
    subst this
    rw [seneschallaw17_PastJoins.l0, if_neg (by omega), if_pos rfl]
    exact hnext c (by omega)
  | succ n ihn =>
    intro i acc h ha hd c hc
    rw [big_succ] at hc
    have hbig : 1000 ≤ big n := by unfold big; omega
    obtain ⟨c, rfl⟩ : ∃ c', c = c' + 1 := ⟨c - 1, by omega⟩
    show seneschallaw17_PastJoins.l0 (c + 1) _ _ _ _ _ _ _ _ _ _ _ = _
    have hi : i < d2.length := by omega
    rw [List.drop_eq_getElem_cons hi, List.filter_cons] at hd
    rw [seneschallaw17_PastJoins.l0, if_pos (by omega)]
    refine joins1 L0 L1 L2 d0 d1 d2 P0 P1 P2 (by omega) (by omega) acc (by omega) i hi (big n + B) (hasT d1 d2[i]) (fun c hc => ?_) d1.length 0 false (Nat.zero_add _) (by simp [hasR_hasT]) c (by omega)
    cases hh : hasT d1 d2[i] with
    | true =>
      rw [hh] at hd
      exact ihn (i + 1) acc (by omega) (by omega) (by simpa using hd) c hc
    | false =>
      rw [hh] at hd
      exact ihn (i + 1) (acc ++ [d2[i]]) (by omega) (by simp; omega) (by simpa using hd) c hc
end

theorem left_some {a b : List S31} {j : Nat} {x : S31} (h : a[j]? = some x) : (a ++ b)[j]? = some x := by
  rw [at_left (List.getElem?_eq_some_iff.1 h).1]; exact h
theorem fold_ok (a b : List S31) (y : S45) (hy : y ∈ (vAt (a ++ b) 1 (a ++ b).length).pages) : foldP (vAt a 1 a.length).pages y.f0 (foldP (vAt b (1 + (a.length : Int)) b.length).pages y.f0 0) = y.f1 := by
  obtain ⟨j, x, h1, h2, h3, h4, h5⟩ := (pages_mem (a ++ b) 1 y _).1 hy
  subst h4
  rcases Nat.lt_or_ge j a.length with hj | hj
  · rw [at_left hj] at h2
    refine foldP_mem (riseP_at a 1 _) ?_ _
    refine (pages_mem a 1 _ _).2 ⟨j, x, hj, h2, h3, rfl, fun j' x' k1 k2 k3 => h5 j' x' k1 (left_some k2) k3⟩
  · obtain ⟨i, rfl⟩ : ∃ i, j = a.length + i := ⟨j - a.length, by omega⟩
    rw [at_right] at h2
    have hn : ∀ z ∈ (vAt a 1 a.length).pages, z.f0 ≠ x.f4 := fun z hz e => by
      obtain ⟨j', x', q1, q2, q3, q4⟩ := (pages_has a 1 x.f4 _).1 ⟨z, hz, e⟩
      exact h5 j' x' (by omega) (left_some q2) q3 q4
    rw [foldP_none hn]
    refine foldP_mem (riseP_at b _ _) ?_ _
    have hlen : (a ++ b).length = a.length + b.length := by simp
    have e1 : (1 : Int) + ((a.length + i : Nat) : Int) = 1 + (a.length : Int) + (i : Int) := by omega
    rw [e1]
    refine (pages_mem b _ _ _).2 ⟨i, x, by omega, h2, h3, rfl, fun j' x' k1 k2 k3 => h5 (a.length + j') x' (by omega) (by rw [at_right]; exact k2) k3⟩
theorem pages_le (l : List S31) (f : Int) (i : Nat) (m : List S31) (g : Int) (k : Nat) (h : ∀ p, (∃ y ∈ (vAt m g k).pages, y.f0 = p) → ∃ y ∈ (vAt l f i).pages, y.f0 = p) : (vAt m g k).pages.length ≤ (vAt l f i).pages.length := by
  have hs := rise_sub (lt := fun a b : Int => a < b) (fun x => Int.lt_irrefl x) (fun x y z => Int.lt_trans) ((vAt l f i).pages.map (·.f0)) ((vAt m g k).pages.map (·.f0)) (List.Pairwise.map (R := fun (a b : S45) => a.f0 < b.f0) (·.f0) (fun _ _ h => h) (riseP_at m g k)) (List.Pairwise.map (R := fun (a b : S45) => a.f0 < b.f0) (·.f0) (fun _ _ h => h) (riseP_at l f i)) (fun p hp => by
    rw [List.mem_map] at hp ⊢
    obtain ⟨y, h1, h2⟩ := hp
    exact h p ⟨y, h1, h2⟩)
  have := hs.length_le
  simpa using this
theorem great_any (l : List S31) : ∃ b, (∀ k, 100 ≤ k → seneschallaw17_great.f k l = some b) ∧ (b = false → l.length ≤ 80) := by
  obtain ⟨b, hb, hb2⟩ := great_some l
  by_cases hl : l.length ≤ 80
  · exact ⟨b, fun k hk => hb k (by omega), hb2⟩
  · refine ⟨true, fun k hk => ?_, fun e => by cases e⟩
    unfold seneschallaw17_great.f
    rw [if_pos (show (l.length : Int) > 80 by omega)]
theorem past_joins_any (a b : List S31) (K : Nat) (hK : 200000 ≤ K) : seneschallaw17_PastJoins.f (K + 1) a b = some true := by
  obtain ⟨ga, ha, ha2⟩ := great_any a
  obtain ⟨gb, hb, hb2⟩ := great_any b
  have j0t : seneschallaw17_PastJoins.j0 (K + 1) a b true = some true := by rw [seneschallaw17_PastJoins.j0, if_pos rfl]
  unfold seneschallaw17_PastJoins.f
  rw [show seneschallaw17_awake.f = some true from rfl]
  simp only [Option.bind_some, if_true]
  by_cases h1 : (a.length : Int) > 40
  · rw [if_pos h1]; exact j0t
  rw [if_neg h1]
  by_cases h2 : (b.length : Int) > 40
  · rw [if_pos h2]; exact j0t
  rw [if_neg h2, ha _ (by omega)]
  simp only [Option.bind_some]
  cases ga with
  | true => rw [if_pos rfl]; exact j0t
  | false =>
    rw [if_neg (by simp), hb _ (by omega)]
    simp only [Option.bind_some]
    cases gb with
    | true => exact j0t
    | false =>
      have hlen : (a ++ b).length = a.length + b.length := by simp
      rw [seneschallaw17_PastJoins.j0, if_neg (by simp)]
      simp only [Option.bind_some, List.nil_append, List.length_nil, Nat.zero_add]
      rw [if_pos (by omega), if_pos (by omega)]
      have hw : wrap64 (1 + (a.length : Int)) = 1 + (a.length : Int) := by unfold wrap64; omega
      rw [hw]
      clear hw
      unfold past_Read.f
      rw [if_pos (show (a ++ b).length ≤ 400 by omega), if_pos (show a.length ≤ 400 by omega), if_pos (show b.length ≤ 400 by omega), if_pos (show isFirst 1 = true by decide), if_pos (show isFirst 1 = true by decide), if_pos (show isFirst (1 + (a.length : Int)) = true by unfold isFirst; simp; omega)]
      simp only [Option.bind_some]
      have n0 := losers_len (a ++ b) 1 (a ++ b).length
      have m0 := done_length (a ++ b) 1 (a ++ b).length
      have p0 := pages_length (a ++ b) 1 (a ++ b).length
      have m1 := done_length a 1 a.length
      have p1 := pages_length a 1 a.length
      have m2 := done_length b (1 + (a.length : Int)) b.length
      have p2 := pages_length b (1 + (a.length : Int)) b.length
      have hok := fold_ok a b
      have hdone := done_right a b 1 (1 + (a.length : Int)) b.length (Nat.le_refl _)
      rw [← hlen] at hdone
      have q1 := pages_le (a ++ b) 1 (a ++ b).length a 1 a.length (fun p hp => by
        obtain ⟨j, x, k1, k2, k3⟩ := (pages_has a 1 p _).1 hp
        exact (pages_has (a ++ b) 1 p _).2 ⟨j, x, by omega, left_some k2, k3⟩)
      have q2 := pages_le (a ++ b) 1 (a ++ b).length b (1 + (a.length : Int)) b.length (fun p hp => by
        obtain ⟨j, x, k1, k2, k3⟩ := (pages_has b _ p _).1 hp
        exact (pages_has (a ++ b) 1 p _).2 ⟨a.length + j, x, by omega, by rw [at_right]; exact k2, k3⟩)
      generalize (vAt (a ++ b) 1 (a ++ b).length).losers = L0 at *
      generalize (vAt (a ++ b) 1 (a ++ b).length).done = d0 at *
      generalize (vAt (a ++ b) 1 (a ++ b).length).pages = P0 at *
      generalize (vAt a 1 a.length).losers = L1 at *
      generalize (vAt a 1 a.length).done = d1 at *
      generalize (vAt a 1 a.length).pages = P1 at *
      generalize (vAt b (1 + (a.length : Int)) b.length).losers = L2 at *
      generalize (vAt b (1 + (a.length : Int)) b.length).done = d2 at *
      generalize (vAt b (1 + (a.length : Int)) b.length).pages = P2 at *
      rw [if_pos (by omega)]
      have hbig1 : big d2.length ≤ 90000 := by unfold big; omega
      have hbig2 : big P0.length ≤ 90000 := by unfold big; omega
      refine joins0 L0 L1 L2 d0 d1 d2 P0 P1 P2 (by omega) (by omega) (by omega) (d0.length + 1 + (big P0.length)) (fun c hc => ?_) d2.length 0 d1 (Nat.zero_add _) (by omega) (by simpa using hdone.symm) K (by omega)
      refine joins2 L0 L1 L2 d0 d1 d2 P0 P1 P2 (by omega) (big P0.length) (fun c hc => ?_) d0.length 0 (Nat.zero_add _) c hc
      exact joins3 L0 L1 L2 d0 d1 d2 P0 P1 P2 (by omega) (by omega) (by omega) hok q1 q2 P0.length 0 (Nat.zero_add _) c hc
theorem past_joins (a b : List S31) : ∃ k, seneschallaw17_PastJoins.f k a b = some true := ⟨_, past_joins_any a b 200000 (Nat.le_refl _)⟩
/-- The row's walk. -/
theorem pastJoins_row (W : World) (A : Option Addr) (cap : Nat) (a : List S31) (B : Option Addr) (cap' : Nat) (b : List S31) (h : Kd.C k31 W A a.length a) (hc : a.length ≤ cap) (h' : Kd.C k31 W B b.length b) (hc' : b.length ≤ cap') :
    Calls Try.prog 7 #[.slice A a.length cap, .slice B b.length cap'] W fun e W' => e = .returned (.bool true) ∧ Below W.heap.size W W' := by
  obtain ⟨k, hk⟩ := past_joins a b
  exact seneschallaw17_PastJoins.calls k A cap a B cap' b true W h hc h' hc' hk
end Go.Proofs.Ytianblmceohmnaa.Hand
