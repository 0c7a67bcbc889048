/- past.Read and past.Needed as plain functions, with their contracts. -/
import Derived.Test.YtianblmceohmnaaView
namespace Go.Proofs.Ytianblmceohmnaa.Hand
open Go.RowKit Go.Maps Go.Proofs.Ytianblmceohmnaa.PAll Go.Proofs.YtianblmceohmnaaW.PrintWords Go.Proofs.MapF
set_option linter.unusedVariables false
set_option linter.unusedSimpArgs false

structure VS where
  losers : List S43
  done : List S24
  pages : List S45
def vstep (l : List S31) (a : Int) (i : Nat) (x : S31) (s : VS) : VS :=
  if good x then
    { losers := if atEnd l x.f1 then s.losers else insL x.f1 x.f2 s.losers,
      done := if x.f0 == 3 && !hasT s.done x.f1 then s.done ++ [x.f1] else s.done,
      pages := if isEnd x then s.pages else insP x.f4 (a + i) s.pages }
  else s
def vAt (l : List S31) (a : Int) : Nat → VS
  | 0 => ⟨[], [], []⟩
  | i + 1 => match l[i]? with
    | some x => vstep l a i x (vAt l a i)
    | none => vAt l a i
theorem vAt_succ {l : List S31} {a : Int} {i : Nat} {x : S31} (h : l[i]? = some x) : vAt l a (i + 1) = vstep l a i x (vAt l a i) := by rw [vAt, h]

structure Rep (s : RS) (v : VS) : Prop where
  done : s.done = v.done
  riseL : RiseL v.losers
  wf : ∀ y ∈ v.losers, wf24 y.f0
  last : ∀ t, wf24 t → ∀ u, s.last (KL t) = some u ↔ ∃ y ∈ v.losers, y.f0 = t ∧ u = .int .i64 y.f1
  riseP : RiseP v.pages
  pages : ∀ p u, s.pages (.int .i64 p) = some u ↔ ∃ y ∈ v.pages, y.f0 = p ∧ u = .int .i64 y.f1
theorem rep_start : Rep ⟨fun _ => none, [], fun _ => none⟩ ⟨[], [], []⟩ :=
  ⟨rfl, List.Pairwise.nil, fun y h => by simp at h, fun t _ u => by simp, List.Pairwise.nil, fun p u => by simp⟩
theorem rep_step (l : List S31) (a : Int) (i : Nat) (x : S31) {s : RS} {v : VS} (h : Rep s v) : Rep (rstep l a i x s) (vstep l a i x v) := by
  unfold rstep vstep
  by_cases hg : good x = true
  · rw [if_pos hg, if_pos hg]
    have hw := good_wf hg
    refine ⟨?_, ?_, ?_, ?_, ?_, ?_⟩
    · dsimp only; rw [h.done]
    · dsimp only
      split
      · exact h.riseL
      · exact rise_insL h.riseL
    · dsimp only
      intro y hy
      split at hy
      · exact h.wf y hy
      · rcases (mem_insL h.riseL y).1 hy with rfl | hy
        · exact hw
        · exact h.wf y hy.1
    · dsimp only
      intro t ht u
      split
      · exact h.last t ht u
      · by_cases e : t = x.f1
        · subst e
          rw [upd_same]
          constructor
          · intro e'; cases e'
            exact ⟨⟨x.f1, x.f2⟩, (mem_insL h.riseL _).2 (.inl rfl), rfl, rfl⟩
          · rintro ⟨y, hy, e1, rfl⟩
            rcases (mem_insL h.riseL y).1 hy with rfl | hy
            · rfl
            · exact absurd e1 hy.2
        · rw [upd_other _ _ (fun e' => e (KL_inj ht hw e')), h.last t ht u]
          constructor
          · rintro ⟨y, hy, e1, e2⟩
            exact ⟨y, (mem_insL h.riseL y).2 (.inr ⟨hy, by rw [e1]; exact e⟩), e1, e2⟩
          · rintro ⟨y, hy, e1, e2⟩
            rcases (mem_insL h.riseL y).1 hy with rfl | hy
            · exact absurd e1.symm e
            · exact ⟨y, hy.1, e1, e2⟩
    · dsimp only
      split
      · exact h.riseP
      · exact rise_insP h.riseP
    · dsimp only
      intro p u
      cases he : isEnd x with
      | true => simp; exact h.pages p u
      | false =>
        simp only [Bool.not_false, Bool.and_true]
        rw [if_neg (show ¬ false = true by simp)]
        by_cases hs : (s.pages (.int .i64 x.f4)).isSome = true
        · rw [hs]
          rw [if_neg (show ¬ (!true) = true by simp)]
          rw [h.pages p u]
          obtain ⟨v0, hv0⟩ := Option.isSome_iff_exists.1 hs
          obtain ⟨y0, hy0, e0, _⟩ := (h.pages _ _).1 hv0
          constructor
          · rintro ⟨y, hy, e1, e2⟩
            exact ⟨y, (mem_insP h.riseP y).2 (.inl hy), e1, e2⟩
          · rintro ⟨y, hy, e1, e2⟩
            rcases (mem_insP h.riseP y).1 hy with hy | hy
            · exact ⟨y, hy, e1, e2⟩
            · exact absurd e0 (hy.2 y0 hy0)
        · have hs' : (s.pages (.int .i64 x.f4)).isSome = false := by simpa using hs
          have hno : ∀ z ∈ v.pages, z.f0 ≠ x.f4 := fun z hz e => by
            have := (h.pages x.f4 (.int .i64 z.f1)).2 ⟨z, hz, e, rfl⟩
            rw [this] at hs'; cases hs'
          rw [hs', if_pos (show (!false) = true by simp)]
          by_cases e : p = x.f4
          · subst e
            rw [upd_same]
            constructor
            · intro e'; cases e'
              exact ⟨⟨x.f4, a + i⟩, (mem_insP h.riseP _).2 (.inr ⟨rfl, hno⟩), rfl, rfl⟩
            · rintro ⟨y, hy, e1, rfl⟩
              rcases (mem_insP h.riseP y).1 hy with hy | hy
              · exact absurd e1 (hno y hy)
              · rw [hy.1]
          · rw [upd_other _ _ (fun e' => e (by injection e')), h.pages p u]
            constructor
            · rintro ⟨y, hy, e1, e2⟩
              exact ⟨y, (mem_insP h.riseP y).2 (.inl hy), e1, e2⟩
            · rintro ⟨y, hy, e1, e2⟩
              rcases (mem_insP h.riseP y).1 hy with hy | hy
              · exact ⟨y, hy, e1, e2⟩
              · rw [hy.1] at e1; exact absurd e1.symm e
  · rw [if_neg hg, if_neg hg]; exact h
theorem rep_at (l : List S31) (a : Int) : ∀ i, Rep (rsAt l a i) (vAt l a i)
  | 0 => rep_start
  | i + 1 => by
    rw [rsAt, vAt]
    have := rep_at l a i
    cases l[i]? with
    | none => exact this
    | some x => exact rep_step l a i x this
theorem view_losers {s : RS} {v : VS} (h : Rep s v) {ss : List S24} (hs : KeysF s.last ss) (hp : ss.Pairwise Lt24) : losersF s.last ss = v.losers := by
  have e : ss = v.losers.map (·.f0) := by
    refine rising_unique Lt24.irrefl Lt24.trans _ _ hp (List.pairwise_map.2 h.riseL) fun t => ?_
    rw [hs.2 t, List.mem_map]
    constructor
    · rintro ⟨hw, h1⟩
      obtain ⟨u, hu⟩ := Option.isSome_iff_exists.1 h1
      obtain ⟨y, hy, e1, _⟩ := (h.last t hw u).1 hu
      exact ⟨y, hy, e1⟩
    · rintro ⟨y, hy, rfl⟩
      exact ⟨h.wf y hy, by rw [(h.last _ (h.wf y hy) (.int .i64 y.f1)).2 ⟨y, hy, rfl, rfl⟩]; rfl⟩
  unfold losersF
  rw [e, List.map_map]
  have : ∀ y ∈ v.losers, ((fun t => (⟨t, intV (s.last (KL t))⟩ : S43)) ∘ fun x => x.f0) y = y := fun y hy => by
    show (⟨y.f0, intV (s.last (KL y.f0))⟩ : S43) = y
    rw [(h.last _ (h.wf y hy) (.int .i64 y.f1)).2 ⟨y, hy, rfl, rfl⟩]
    rfl
  rw [List.map_congr_left this, List.map_id']
theorem view_pages {s : RS} {v : VS} (h : Rep s v) {ps : List Int} (hs : KeysZ s.pages ps) (hp : ps.Pairwise (· < ·)) : pagesF s.pages ps = v.pages := by
  have e : ps = v.pages.map (·.f0) := by
    refine rising_unique (fun x => Int.lt_irrefl x) (fun x y z h1 h2 => Int.lt_trans h1 h2) _ _ hp (List.pairwise_map.2 h.riseP) fun p => ?_
    rw [hs.2 p, List.mem_map]
    constructor
    · intro h1
      obtain ⟨u, hu⟩ := Option.isSome_iff_exists.1 h1
      obtain ⟨y, hy, e1, _⟩ := (h.pages p u).1 hu
      exact ⟨y, hy, e1⟩
    · rintro ⟨y, hy, rfl⟩
      rw [(h.pages _ (.int .i64 y.f1)).2 ⟨y, hy, rfl, rfl⟩]; rfl
  unfold pagesF
  rw [e, List.map_map]
  have : ∀ y ∈ v.pages, ((fun p => (⟨p, intV (s.pages (.int .i64 p))⟩ : S45)) ∘ fun x => x.f0) y = y := fun y hy => by
    show (⟨y.f0, intV (s.pages (.int .i64 y.f0))⟩ : S45) = y
    rw [(h.pages _ (.int .i64 y.f1)).2 ⟨y, hy, rfl, rfl⟩]
    rfl
  rw [List.map_congr_left this, List.map_id']
end Go.Proofs.Ytianblmceohmnaa.Hand

namespace Go.Proofs.Ytianblmceohmnaa.PAll
open Go.RowKit Go.Proofs.YtianblmceohmnaaW.PrintWords Go.Proofs.Ytianblmceohmnaa.Hand
def past_Read.f (l0 : List (S31)) (a1 : Int) : Option ((List (S43)) × (List (S24)) × (List (S45))) :=
  if l0.length ≤ 400 then (if isFirst a1 then some ((vAt l0 a1 l0.length).losers, (vAt l0 a1 l0.length).done, (vAt l0 a1 l0.length).pages) else some ([], [], [])) else none
theorem past_Read.calls (A0 : Option Addr) (c0 : Nat) (l0 : List (S31)) (a1 : Int) (r1 : List (S43)) (r2 : List (S24)) (r3 : List (S45)) (w : World) (hr0 : Kd.C k31 w A0 l0.length l0) (hc0 : l0.length ≤ c0) (h : past_Read.f l0 a1 = some (r1, r2, r3)) :
    Calls Try.prog 13 #[.slice A0 l0.length c0, .int .i64 a1] w fun e w' => ∃ v0_ v1_ v2_ : Value, e = .returned (.agg #[v0_, v1_, v2_]) ∧ Kd.R k43 43 w' w.heap.size (fun _ => True) v0_ r1 ∧ Kd.R k24 24 w' w.heap.size (fun _ => True) v1_ r2 ∧ Kd.R k45 45 w' w.heap.size (fun _ => True) v2_ r3 ∧ Below w.heap.size w w' := by
  unfold past_Read.f at h
  by_cases hl : l0.length ≤ 400
  · rw [if_pos hl] at h
    cases hf : isFirst a1 with
    | false =>
      rw [hf, if_neg (by simp)] at h
      cases h
      refine (read_none A0 c0 l0 a1 w hf).mono ?_
      rintro e w' ⟨rfl, hb⟩
      exact ⟨_, _, _, rfl, Kd.R_nil _ _ _ _ _, Kd.R_nil _ _ _ _ _, Kd.R_nil _ _ _ _ _, hb⟩
    | true =>
      rw [hf, if_pos rfl] at h
      cases h
      refine (read_some A0 c0 l0 a1 w hf hr0 hc0 hl).mono ?_
      rintro e w' ⟨v0, v1, v2, ss, ps, rfl, ⟨⟨h1, h2⟩, h3, h4⟩, o1, o2, o3, hb⟩
      have hrep := rep_at l0 a1 l0.length
      rw [view_losers hrep h1 h2] at o1
      rw [hrep.done] at o2
      rw [view_pages hrep h3 h4] at o3
      exact ⟨v0, v1, v2, rfl, R43 o1, R24 o2, R45 o3, hb⟩
  · rw [if_neg hl] at h; cases h
def past_Needed.f (l0 : List (S31)) (a1 : Int) : Option Int := if l0.length ≤ 400 then some (needF l0 a1) else none
theorem past_Needed.calls (A0 : Option Addr) (c0 : Nat) (l0 : List (S31)) (a1 : Int) (r : Int) (w : World) (hr0 : Kd.C k31 w A0 l0.length l0) (hc0 : l0.length ≤ c0) (h : past_Needed.f l0 a1 = some r) :
    Calls Try.prog 15 #[.slice A0 l0.length c0, .int .i64 a1] w fun e w' => e = .returned (.int .i64 r) ∧ Below w.heap.size w w' := by
  unfold past_Needed.f at h
  split at h
  · cases h
    exact needed_calls A0 c0 l0 a1 w hr0 hc0 (by omega)
  · cases h
end Go.Proofs.Ytianblmceohmnaa.PAll
