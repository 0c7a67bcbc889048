/- At every list of entries, every number and every name: seneschallaw17.PastReads returns true, and its arguments read behind the call as they read before. No condition beyond the row's own. -/
import Derived.Test.YtianblmceohmnaaKeys
import Derived.OpenShut
import Derived.WideShapes
import Derived.ProofKit
import Derived.Deep.Slices
import Derived.Deep.RegionLaw
import Derived.Test.YtianblmceohmnaaStands
import Derived.Test.YtianblmceohmnaaPAllx25
import Derived.Test.YtianblmceohmnaaRows
import Derived.WalkKit
import Derived.ShutString
import Derived.ChangeOld
import Derived.Below
import Derived.SizedLaws
namespace Go.Proofs.Ytianblmceohmnaa.Hand
open Go.RowKit Go.OpenShut Go.ChangeShapes Go.WideShapes Go.ChangeAt Go.Proofs.Ytianblmceohmnaa.PAll Go.Proofs.YtianblmceohmnaaW.PrintWords
set_option linter.unusedSimpArgs false
set_option linter.unusedVariables false
set_option maxRecDepth 100000

section
variable {H : Type} {enc : TypeId × Value → H} {w : World} {base : Nat} {spare : Nat → Bool} {held : Bool}
theorem txn_cells {fuel : Nat} {cs : List Value} {x : DataW H × List MemPlace} (h : DataW.trod enc Try.prog w base spare held fuel 24 cs = some x) : ∃ a : S24, cs = [.int .i64 a.f0, .int .i64 a.f1, .int .i64 a.f2] := by
  obtain ⟨xs, n, _, _, hl, hx, hf⟩ := DataW.trod_struct Try.underlying24 h
  rw [show Try.prog.cellsOf 24 = 3 from by kernel_rfl] at hl
  match cs, hl with
  | [c0, c1, c2], _ =>
    match xs, hx with
    | [x0, x1, x2], _ =>
      have k3 : Try.prog.cellsOf 3 = 1 := by kernel_rfl
      have f0 := hf 0 _ rfl
      have f1 := hf 1 _ rfl
      have f2 := hf 2 _ rfl
      simp [k3] at f0 f1 f2
      obtain ⟨a0, h0, _, w0⟩ := DataW.trod_int Try.underlying3 f0
      obtain ⟨a1, h1, _, w1⟩ := DataW.trod_int Try.underlying3 f1
      obtain ⟨a2, h2, _, w2⟩ := DataW.trod_int Try.underlying3 f2
      simp at h0 h1 h2
      subst h0 h1 h2
      exact ⟨⟨a0, a1, a2⟩, rfl⟩
theorem txn_of_trod {P' : Reach} {base2 : Nat} {v : Value} {d : DataW H} {ps : List MemPlace} (hv : Value.okWide Try.prog w P' base2 24 v) (h : DataW.Trod enc Try.prog w base spare held 24 v d ps) : ∃ l : S24, v = val24 l ∧ True := by
  obtain ⟨cs, rfl, _⟩ := okWide_struct Try.underlying24 hv
  obtain ⟨fuel, h⟩ := h
  obtain ⟨a, ha⟩ := txn_cells h
  refine ⟨a, ?_, trivial⟩
  have : cs.toList = [.int .i64 a.f0, .int .i64 a.f1, .int .i64 a.f2] := ha
  have e : cs = #[.int .i64 a.f0, .int .i64 a.f1, .int .i64 a.f2] := by apply Array.toList_inj.1; rw [this]
  rw [e]
end
end Go.Proofs.Ytianblmceohmnaa.Hand

namespace Go.Proofs.Ytianblmceohmnaa.Hand
open Go.RowKit Go.OpenShut Go.ChangeShapes Go.WideShapes Go.ChangeAt Go.Proofs.Ytianblmceohmnaa.PAll Go.Proofs.YtianblmceohmnaaW.PrintWords
set_option linter.unusedSimpArgs false
set_option linter.unusedVariables false
set_option maxRecDepth 100000

section
variable {H : Type} {enc : TypeId × Value → H} {w : World} {base : Nat} {spare : Nat → Bool} {held : Bool}
theorem slot_cells {fuel : Nat} {cs : List Value} {x : DataW H × List MemPlace} (h : DataW.trod enc Try.prog w base spare held fuel 29 cs = some x) : ∃ a : S29, cs = [.bool a.f0, .string a.f1] := by
  obtain ⟨xs, n, _, _, hl, hx, hf⟩ := DataW.trod_struct Try.underlying29 h
  rw [show Try.prog.cellsOf 29 = 2 from by kernel_rfl] at hl
  match cs, hl with
  | [c0, c1], _ =>
    match xs, hx with
    | [x0, x1], _ =>
      have k3 : Try.prog.cellsOf 4 = 1 := by kernel_rfl
      have k4 : Try.prog.cellsOf 9 = 1 := by kernel_rfl
      have f0 := hf 0 _ rfl
      have f1 := hf 1 _ rfl
      simp [k3, k4] at f0 f1
      obtain ⟨a0, h0, _⟩ := DataW.trod_bool Try.underlying4 f0
      obtain ⟨a1, h1, _, w1⟩ := DataW.trod_string Try.underlying9 f1
      simp at h0 h1
      subst h0 h1
      exact ⟨⟨a0, a1⟩, rfl⟩
theorem entry_cells {fuel : Nat} {cs : List Value} {x : DataW H × List MemPlace} (h : DataW.trod enc Try.prog w base spare held fuel 31 cs = some x) : ∃ a : S31, cs = [.int .i64 a.f0, .int .i64 a.f1.f0, .int .i64 a.f1.f1, .int .i64 a.f1.f2, .int .i64 a.f2, .int .i64 a.f3, .int .i64 a.f4, .int .i64 a.f5, .bool a.f6.f0, .string a.f6.f1, .bool a.f7.f0, .string a.f7.f1, .int .i64 a.f8] := by
  obtain ⟨xs, n, _, _, hl, hx, hf⟩ := DataW.trod_struct Try.underlying31 h
  rw [show Try.prog.cellsOf 31 = 13 from by kernel_rfl] at hl
  match cs, hl with
  | [c0, c1, c2, c3, c4, c5, c6, c7, c8, c9, c10, c11, c12], _ =>
    match xs, hx with
    | [x0, x1, x2, x3, x4, x5, x6, x7, x8], _ =>
      have k3 : Try.prog.cellsOf 3 = 1 := by kernel_rfl
      have k24 : Try.prog.cellsOf 24 = 3 := by kernel_rfl
      have k29 : Try.prog.cellsOf 29 = 2 := by kernel_rfl
      have f0 := hf 0 _ rfl
      have f1 := hf 1 _ rfl
      have f2 := hf 2 _ rfl
      have f3 := hf 3 _ rfl
      have f4 := hf 4 _ rfl
      have f5 := hf 5 _ rfl
      have f6 := hf 6 _ rfl
      have f7 := hf 7 _ rfl
      have f8 := hf 8 _ rfl
      simp [k3, k24, k29] at f0 f1 f2 f3 f4 f5 f6 f7 f8
      obtain ⟨a0, h0, _, _⟩ := DataW.trod_int Try.underlying3 f0
      obtain ⟨a1, h1⟩ := txn_cells f1
      obtain ⟨a2, h2, _, _⟩ := DataW.trod_int Try.underlying3 f2
      obtain ⟨a3, h3, _, _⟩ := DataW.trod_int Try.underlying3 f3
      obtain ⟨a4, h4, _, _⟩ := DataW.trod_int Try.underlying3 f4
      obtain ⟨a5, h5, _, _⟩ := DataW.trod_int Try.underlying3 f5
      obtain ⟨a6, h6⟩ := slot_cells f6
      obtain ⟨a7, h7⟩ := slot_cells f7
      obtain ⟨a8, h8, _, _⟩ := DataW.trod_int Try.underlying3 f8
      simp at h0 h1 h2 h3 h4 h5 h6 h7 h8
      obtain ⟨h1, h1', h1''⟩ := h1
      obtain ⟨h6, h6'⟩ := h6
      obtain ⟨h7, h7'⟩ := h7
      subst h0 h1 h1' h1'' h2 h3 h4 h5 h6 h6' h7 h7' h8
      exact ⟨⟨a0, a1, a2, a3, a4, a5, a6, a7, a8⟩, rfl⟩

/-- The slice (a, len, cap) reads as l. -/
def EntriesIn (w : World) (a : Option Addr) (len cap : Nat) (l : List S31) : Prop := Kd.C k31 w a l.length l ∧ l.length = len ∧ len ≤ cap
theorem entries_of_trod {fuel : Nat} {a : Option Addr} {len cap : Nat} {x : DataW H × List MemPlace} (h : DataW.trod enc Try.prog w base spare held fuel 22 [.slice a len cap] = some x) : ∃ l, EntriesIn w a len cap l := by
  rcases Go.Deep.open_slice Try.underlying22 h with ⟨hc, _⟩ | ⟨ad, len', cap', m, n, D, Pl, hc, hb, hl, hm, hmm, _, hx⟩
  · simp at hc
    obtain ⟨rfl, rfl, rfl⟩ := hc
    exact ⟨[], ⟨rfl, by simp, fun h => absurd h (by simp)⟩, rfl, by omega⟩
  · simp at hc
    obtain ⟨rfl, rfl, rfl⟩ := hc
    have hlm : len ≤ m := by rw [hmm]; split <;> omega
    unfold maxLen at hm
    rw [show Try.prog.cellsOf 31 = 13 from by kernel_rfl] at hx
    have hg : ∀ i, i < len → ∃ g : S31, w.cells? base (ad.add (i * 13)) 13 = some [.int .i64 g.f0, .int .i64 g.f1.f0, .int .i64 g.f1.f1, .int .i64 g.f1.f2, .int .i64 g.f2, .int .i64 g.f3, .int .i64 g.f4, .int .i64 g.f5, .bool g.f6.f0, .string g.f6.f1, .bool g.f7.f0, .string g.f7.f1, .int .i64 g.f8] := fun i hi => by
      obtain ⟨cs', h1, h2⟩ := hx i (by omega)
      obtain ⟨g, rfl⟩ := entry_cells h2
      exact ⟨g, h1⟩
    have : Inhabited S31 := ⟨z31⟩
    obtain ⟨f, hf⟩ := Go.Deep.choose_lt hg
    refine ⟨(List.range len).map f, ⟨rfl, by simp; omega, fun h0 => ⟨ad, rfl, fun j p hj => ?_⟩⟩, by simp, hl⟩
    obtain ⟨hj', hp⟩ := List.getElem?_eq_some_iff.1 hj
    simp at hj' hp
    subst hp
    refine ⟨_, rfl, k31_mk w (f j), fun i u hu => ?_⟩
    have hi : i < 13 := (List.getElem?_eq_some_iff.1 hu).1
    obtain ⟨_, _, hcell⟩ := World.cells?_some (hf _ hj')
    have := hcell i hi
    rw [Go.Deep.add_add] at this
    show w.cell? (ad.add (j * 13 + i)) = _
    rw [this, hu]
end
end Go.Proofs.Ytianblmceohmnaa.Hand

namespace Go.Proofs.Ytianblmceohmnaa.Hand
open Go.RowKit Go.Proofs.Ytianblmceohmnaa.PAll Go.Proofs.YtianblmceohmnaaW.PrintWords
set_option linter.unusedVariables false
set_option linter.unusedSimpArgs false

/-- great's answer: where it is false, there are few entries. -/
theorem great_loop (l : List S31) : ∀ (n i : Nat), i + n = l.length → l.length ≤ 80 → ∃ b, seneschallaw17_great.l0 (n + 1) l (i : Int) = some b
  | 0, i, h, hl => ⟨false, by rw [seneschallaw17_great.l0, if_neg (by omega)]⟩
  | n + 1, i, h, hl => by
    rw [seneschallaw17_great.l0, if_pos (by omega), if_pos (by omega)]
    by_cases h1 : (((rd_T31 l (i : Int)).f6.f1).size : Int) > 1024
    · exact ⟨true, by rw [if_pos h1]⟩
    · rw [if_neg h1]
      by_cases h2 : (((rd_T31 l (i : Int)).f7.f1).size : Int) > 1024
      · exact ⟨true, by rw [if_pos h2]⟩
      · rw [if_neg h2]
        have hw : wrap64 ((i : Int) + 1) = ((i + 1 : Nat) : Int) := by unfold wrap64; omega
        rw [hw]
        exact great_loop l n (i + 1) (by omega) hl
theorem great_some (l : List S31) : ∃ b, (∀ k, l.length + 1 ≤ k → seneschallaw17_great.f k l = some b) ∧ (b = false → l.length ≤ 80) := by
  by_cases h : (l.length : Int) > 80
  · exact ⟨true, fun k _ => by unfold seneschallaw17_great.f; rw [if_pos h], fun e => by cases e⟩
  · obtain ⟨b, hb⟩ := great_loop l l.length 0 (by omega) (by omega)
    refine ⟨b, fun k hk => ?_, fun _ => by omega⟩
    have hm : ∀ d, seneschallaw17_great.f (l.length + 1 + d) l = some b := by
      intro d
      induction d with
      | zero => unfold seneschallaw17_great.f; rw [if_neg h]; exact hb
      | succ d ih => exact seneschallaw17_great.mono l (l.length + 1 + d) _ ih
    obtain ⟨d, rfl⟩ : ∃ d, k = l.length + 1 + d := ⟨k - (l.length + 1), by omega⟩
    exact hm d

theorem riseL_at (l : List S31) (a : Int) (i : Nat) : RiseL (vAt l a i).losers := (rep_at l a i).riseL
/-- Who is a loser, and by which entry. -/
theorem losers_mem (l : List S31) (a : Int) : ∀ (i : Nat) (y : S43), y ∈ (vAt l a i).losers ↔
    ∃ j x, j < i ∧ l[j]? = some x ∧ good x = true ∧ atEnd l x.f1 = false ∧ y = ⟨x.f1, x.f2⟩ ∧ ∀ j' x', j < j' → j' < i → l[j']? = some x' → good x' = true → x'.f1 ≠ x.f1
  | 0, y => by simp [vAt]
  | i + 1, y => by
    have ih := losers_mem l a i
    cases hx : l[i]? with
    | none =>
      rw [vAt, hx]
      dsimp only
      rw [ih y]
      constructor
      · rintro ⟨j, x, h1, h2, h3, h4, h5, h6⟩
        refine ⟨j, x, by omega, h2, h3, h4, h5, fun j' x' k1 k2 k3 k4 => ?_⟩
        rcases Nat.lt_or_ge j' i with h | h
        · exact h6 j' x' k1 h k3 k4
        · obtain rfl : j' = i := by omega
          rw [hx] at k3; cases k3
      · rintro ⟨j, x, h1, h2, h3, h4, h5, h6⟩
        refine ⟨j, x, ?_, h2, h3, h4, h5, fun j' x' k1 k2 k3 k4 => h6 j' x' k1 (by omega) k3 k4⟩
        rcases Nat.lt_or_ge j i with h | h
        · exact h
        · obtain rfl : j = i := by omega
          rw [hx] at h2; cases h2
    | some z =>
      rw [vAt_succ hx]
      unfold vstep
      by_cases hg : good z = true
      · rw [if_pos hg]
        dsimp only
        cases he : atEnd l z.f1 with
        | true =>
          rw [if_pos rfl, ih y]
          constructor
          · rintro ⟨j, x, h1, h2, h3, h4, h5, h6⟩
            refine ⟨j, x, by omega, h2, h3, h4, h5, fun j' x' k1 k2 k3 k4 => ?_⟩
            rcases Nat.lt_or_ge j' i with h | h
            · exact h6 j' x' k1 h k3 k4
            · obtain rfl : j' = i := by omega
              rw [hx] at k3; cases k3
              intro e; rw [e, h4] at he; cases he
          · rintro ⟨j, x, h1, h2, h3, h4, h5, h6⟩
            refine ⟨j, x, ?_, h2, h3, h4, h5, fun j' x' k1 k2 k3 k4 => h6 j' x' k1 (by omega) k3 k4⟩
            rcases Nat.lt_or_ge j i with h | h
            · exact h
            · obtain rfl : j = i := by omega
              rw [hx] at h2; cases h2
              rw [h4] at he; cases he
        | false =>
          rw [if_neg (by simp), mem_insL (riseL_at l a i), ih y]
          constructor
          · rintro (rfl | ⟨⟨j, x, h1, h2, h3, h4, h5, h6⟩, h7⟩)
            · exact ⟨i, z, by omega, hx, hg, he, rfl, fun j' x' k1 k2 => by omega⟩
            · refine ⟨j, x, by omega, h2, h3, h4, h5, fun j' x' k1 k2 k3 k4 => ?_⟩
              rcases Nat.lt_or_ge j' i with h | h
              · exact h6 j' x' k1 h k3 k4
              · obtain rfl : j' = i := by omega
                rw [hx] at k3; cases k3
                rw [h5] at h7
                exact fun e => h7 e.symm
          · rintro ⟨j, x, h1, h2, h3, h4, h5, h6⟩
            rcases Nat.lt_or_ge j i with h | h
            · refine .inr ⟨⟨j, x, h, h2, h3, h4, h5, fun j' x' k1 k2 k3 k4 => h6 j' x' k1 (by omega) k3 k4⟩, ?_⟩
              rw [h5]
              exact fun e => h6 i z h (by omega) hx hg e.symm
            · obtain rfl : j = i := by omega
              rw [hx] at h2; cases h2
              exact .inl h5
      · rw [if_neg hg, ih y]
        constructor
        · rintro ⟨j, x, h1, h2, h3, h4, h5, h6⟩
          refine ⟨j, x, by omega, h2, h3, h4, h5, fun j' x' k1 k2 k3 k4 => ?_⟩
          rcases Nat.lt_or_ge j' i with h | h
          · exact h6 j' x' k1 h k3 k4
          · obtain rfl : j' = i := by omega
            rw [hx] at k3; cases k3
            exact absurd k4 hg
        · rintro ⟨j, x, h1, h2, h3, h4, h5, h6⟩
          refine ⟨j, x, ?_, h2, h3, h4, h5, fun j' x' k1 k2 k3 k4 => h6 j' x' k1 (by omega) k3 k4⟩
          rcases Nat.lt_or_ge j i with h | h
          · exact h
          · obtain rfl : j = i := by omega
            rw [hx] at h2; cases h2
            exact absurd h3 hg
end Go.Proofs.Ytianblmceohmnaa.Hand

namespace Go.Proofs.Ytianblmceohmnaa.Hand
open Go.RowKit Go.Proofs.Ytianblmceohmnaa.PAll Go.Proofs.YtianblmceohmnaaW.PrintWords
set_option linter.unusedVariables false
set_option linter.unusedSimpArgs false

theorem good_any' (k : Nat) (x : S31) (hk : 3 ≤ k) : entry_Good.f k x.f0 x.f1.f0 x.f1.f1 x.f1.f2 x.f2 x.f3 x.f4 x.f5 x.f6.f0 x.f6.f1 x.f7.f0 x.f7.f1 x.f8 = some (good x) := by
  obtain ⟨d, rfl⟩ : ∃ d, k = 3 + d := ⟨k - 3, by omega⟩
  induction d with
  | zero => exact good_some x
  | succ d ih => exact entry_Good.mono _ _ _ _ _ _ _ _ _ _ _ _ _ (3 + d) _ (ih (by omega))
theorem of_loop' (l : List S31) (t : S24) (hl : l.length ≤ 1000) : ∀ (n i : Nat) (acc : List S31), i + n = l.length → acc.length ≤ i → ∀ c, n + 4 ≤ c →
    past_Of.l0 c acc l (l.length : Int) (i : Int) t.f0 t.f1 t.f2 = some (acc ++ refOf (l.drop i) t)
  | 0, i, acc, h, ha, c, hc => by
    obtain ⟨c, rfl⟩ : ∃ c', c = c' + 1 := ⟨c - 1, by omega⟩
    rw [past_Of.l0, if_neg (by omega), List.drop_eq_nil_of_le (by omega)]
    simp [refOf]
  | n + 1, i, acc, h, ha, c, hc => by
    obtain ⟨c, rfl⟩ : ∃ c', c = c' + 1 := ⟨c - 1, by omega⟩
    have hi : i < l.length := by omega
    rw [past_Of.l0, if_pos (by omega), if_pos (by omega), if_pos (by omega), rd31' hi, wrap_succ' (by omega), good_any' c l[i] (by omega)]
    rw [List.drop_eq_getElem_cons hi]
    unfold refOf
    rw [List.filter_cons]
    by_cases he : eq24 l[i].f1 t = true
    · rw [if_pos (show (l[i].f1.f0 == t.f0 && (l[i].f1.f1 == t.f1 && l[i].f1.f2 == t.f2)) = true from he)]
      simp only [Option.bind_some]
      cases hg : good l[i] with
      | true =>
        rw [if_pos rfl, if_pos (by omega)]
        have := of_loop' l t hl n (i + 1) (acc ++ [l[i]]) (by omega) (by simp; omega) c (by omega)
        rw [he]
        simp only [Bool.and_self, if_true]
        rw [show acc ++ l[i] :: (l.drop (i + 1)).filter (fun x => good x && eq24 x.f1 t) = (acc ++ [l[i]]) ++ refOf (l.drop (i + 1)) t by simp [refOf]]
        exact this
      | false =>
        rw [if_neg (by simp), he]
        simp only [Bool.false_and, Bool.false_eq_true, if_false]
        exact of_loop' l t hl n (i + 1) acc (by omega) (by omega) c (by omega)
    · rw [if_neg (show ¬ (l[i].f1.f0 == t.f0 && (l[i].f1.f1 == t.f1 && l[i].f1.f2 == t.f2)) = true from he)]
      have he' : eq24 l[i].f1 t = false := by simpa using he
      rw [he']
      simp only [Bool.and_false, Bool.false_eq_true, if_false]
      exact of_loop' l t hl n (i + 1) acc (by omega) (by omega) c (by omega)
theorem of_any' (l : List S31) (t : S24) (hl : l.length ≤ 1000) (c : Nat) (hc : l.length + 4 ≤ c) : past_Of.f c l t.f0 t.f1 t.f2 = some (refOf l t) := by
  unfold past_Of.f
  have := of_loop' l t hl l.length 0 [] (by omega) (by simp) c hc
  simpa using this

theorem needed_ref_loop (l : List S31) (a : Int) (ha : isFirst a = true) (hl : l.length ≤ 400) : ∀ (n i : Nat), i + n = l.length → (∀ j y, j < i → l[j]? = some y → wanted l y = false) → ∀ c, 2 * n + l.length + 4 ≤ c →
    seneschalref17_Needed.l0 c l a (i : Int) = some (needF l a)
  | 0, i, h, hn, c, hc => by
    obtain ⟨c, rfl⟩ : ∃ c', c = c' + 2 := ⟨c - 2, by omega⟩
    rw [seneschalref17_Needed.l0, if_neg (by omega), seneschalref17_Needed.j1, if_neg (by simp)]
    refine congrArg some (needF_none fun x hx => ?_).symm
    obtain ⟨j, hj, rfl⟩ := List.getElem_of_mem hx
    exact hn j _ (by omega) (List.getElem?_eq_getElem hj)
  | n + 1, i, h, hn, c, hc => by
    obtain ⟨c, rfl⟩ : ∃ c', c = c' + 2 := ⟨c - 2, by omega⟩
    have hi : i < l.length := by omega
    have hb : 1 ≤ a ∧ a ≤ 1099511627776 := by simpa [isFirst] using ha
    have hg : seneschalref04_Good.f l[i].f0 l[i].f1.f0 l[i].f1.f1 l[i].f1.f2 l[i].f2 l[i].f3 l[i].f4 l[i].f5 l[i].f6.f0 l[i].f6.f1 l[i].f7.f0 l[i].f7.f1 l[i].f8 = some (good l[i]) := rfl
    have next : ∀ c, 2 * n + l.length + 4 ≤ c → wanted l l[i] = false → seneschalref17_Needed.l0 c l a ((i + 1 : Nat) : Int) = some (needF l a) := fun c hc hw =>
      needed_ref_loop l a ha hl n (i + 1) (by omega) (fun j y hj hy => by
        rcases Nat.lt_or_ge j i with h1 | h1
        · exact hn j y h1 hy
        · obtain rfl : j = i := by omega
          rw [List.getElem?_eq_getElem hi] at hy
          cases hy
          exact hw) c hc
    rw [seneschalref17_Needed.l0, if_pos (by omega), if_pos (by omega), decide_eq_true hb.2, seneschalref17_Needed.j1, if_pos rfl, if_pos (by omega), if_pos (by omega), rd31' hi, wrap_succ' (by omega), hg]
    simp only [Option.bind_some]
    cases hgd : good l[i] with
    | false =>
      rw [if_neg (by simp)]
      exact next c (by omega) (by simp [wanted, hgd])
    | true =>
      rw [if_pos rfl, ended_any l l[i].f1 (by omega) c (by omega)]
      simp only [Option.bind_some]
      cases he : atEnd l l[i].f1 with
      | true =>
        rw [if_pos rfl]
        exact next c (by omega) (by simp [wanted, hgd, he])
      | false =>
        rw [if_neg (by simp)]
        refine congrArg some ?_
        rw [needF_at ha (List.getElem?_eq_getElem hi) hn (by simp [wanted, hgd, he])]
        unfold wrap64
        omega
theorem needed_ref (l : List S31) (a : Int) (hl : l.length ≤ 400) (c : Nat) (hc : 2 * l.length + l.length + 4 ≤ c) : seneschalref17_Needed.f c l a = some (needF l a) := by
  unfold seneschalref17_Needed.f
  cases ha : isFirst a with
  | true => exact needed_ref_loop l a ha hl l.length 0 (by omega) (fun j y h => absurd h (by omega)) c hc
  | false =>
    obtain ⟨c, rfl⟩ : ∃ c', c = c' + 2 := ⟨c - 2, by omega⟩
    have h0 : needF l a = 0 := by unfold needF; rw [ha]; rfl
    rw [h0]
    have hj : seneschalref17_Needed.j1 (c + 1) l a 0 false = some 0 := by rw [seneschalref17_Needed.j1, if_neg (by simp)]
    rw [seneschalref17_Needed.l0]
    split
    · split
      · rename_i h1
        have : decide (a ≤ 1099511627776) = false := by
          unfold isFirst at ha
          simp at ha ⊢
          omega
        rw [this]
        exact hj
      · exact hj
    · exact hj

section
variable (L : List S43) (D : List S24) (P : List S45)
theorem same2 (hP : P.length ≤ 1000) : ∀ (n i : Nat), i + n = P.length → ∀ c, n + 1 ≤ c → seneschalref17_Same.l2 c (i : Int) L D P L D P = some true
  | 0, i, h, c, hc => by
    obtain ⟨c, rfl⟩ : ∃ c', c = c' + 1 := ⟨c - 1, by omega⟩
    rw [seneschalref17_Same.l2, if_neg (by omega)]
  | n + 1, i, h, c, hc => by
    obtain ⟨c, rfl⟩ : ∃ c', c = c' + 1 := ⟨c - 1, by omega⟩
    rw [seneschalref17_Same.l2, if_pos (by omega), if_pos (by omega), if_pos (by omega), if_neg (by simp), wrap_succ' (by omega)]
    exact same2 hP n (i + 1) (by omega) c (by omega)
theorem same1 (hD : D.length ≤ 1000) (hP : P.length ≤ 1000) : ∀ (n i : Nat), i + n = D.length → ∀ c, n + P.length + 2 ≤ c → seneschalref17_Same.l1 c (i : Int) L D P L D P = some true
  | 0, i, h, c, hc => by
    obtain ⟨c, rfl⟩ : ∃ c', c = c' + 1 := ⟨c - 1, by omega⟩
    rw [seneschalref17_Same.l1, if_neg (by omega)]
    exact same2 L D P hP P.length 0 (by omega) c (by omega)
  | n + 1, i, h, c, hc => by
    obtain ⟨c, rfl⟩ : ∃ c', c = c' + 1 := ⟨c - 1, by omega⟩
    rw [seneschalref17_Same.l1, if_pos (by omega), if_pos (by omega), if_pos (by omega), if_neg (by simp), wrap_succ' (by omega)]
    exact same1 hD hP n (i + 1) (by omega) c (by omega)
theorem same0 (hL : L.length ≤ 1000) (hD : D.length ≤ 1000) (hP : P.length ≤ 1000) : ∀ (n i : Nat), i + n = L.length → ∀ c, n + D.length + P.length + 3 ≤ c → seneschalref17_Same.l0 c (i : Int) L D P L D P = some true
  | 0, i, h, c, hc => by
    obtain ⟨c, rfl⟩ : ∃ c', c = c' + 1 := ⟨c - 1, by omega⟩
    rw [seneschalref17_Same.l0, if_neg (by omega)]
    exact same1 L D P hD hP D.length 0 (by omega) c (by omega)
  | n + 1, i, h, c, hc => by
    obtain ⟨c, rfl⟩ : ∃ c', c = c' + 1 := ⟨c - 1, by omega⟩
    rw [seneschalref17_Same.l0, if_pos (by omega), if_pos (by omega), if_pos (by omega), if_neg (by simp), wrap_succ' (by omega)]
    exact same0 hL hD hP n (i + 1) (by omega) c (by omega)
theorem same_self (hL : L.length ≤ 1000) (hD : D.length ≤ 1000) (hP : P.length ≤ 1000) (c : Nat) (hc : L.length + D.length + P.length + 4 ≤ c) : seneschalref17_Same.f c L D P L D P = some true := by
  obtain ⟨c, rfl⟩ : ∃ c', c = c' + 1 := ⟨c - 1, by omega⟩
  unfold seneschalref17_Same.f
  rw [if_pos rfl, if_pos rfl, seneschalref17_Same.j0, if_neg (by simp)]
  exact same0 L D P hL hD hP L.length 0 (by omega) c (by omega)
end

theorem reads_loop (l own : List S31) (a : Int) (B : Nat) (ho : own.length ≤ 1000) (hnext : ∀ c, B ≤ c → ((past_Read.f l a).bind fun bt473 => ((seneschalref17_Read.f l a).bind fun bt482 => ((seneschalref17_Same.f c bt473.1 bt473.2.1 bt473.2.2 bt482.1 bt482.2.1 bt482.2.2).bind fun t491 => (if t491 = true then ((past_Needed.f l a).bind fun t492 => ((seneschalref17_Needed.f c l a).bind fun t493 => (some (t492 == t493)))) else (some false))))) = some true) :
    ∀ (n i : Nat), i + n = own.length → ∀ c, n + 1 + B ≤ c → seneschallaw17_PastReads.l0 c l a own own (i : Int) = some true
  | 0, i, h, c, hc => by
    obtain ⟨c, rfl⟩ : ∃ c', c = c' + 1 := ⟨c - 1, by omega⟩
    rw [seneschallaw17_PastReads.l0, if_neg (by omega)]
    exact hnext c (by omega)
  | n + 1, i, h, c, hc => by
    obtain ⟨c, rfl⟩ : ∃ c', c = c' + 1 := ⟨c - 1, by omega⟩
    rw [seneschallaw17_PastReads.l0, if_pos (by omega), if_pos (by omega), if_pos (by omega), if_neg (by simp), wrap_succ' (by omega)]
    exact reads_loop l own a B ho hnext n (i + 1) (by omega) c (by omega)
theorem past_reads_any (l : List S31) (a : Int) (t : S24) (K : Nat) (hK : 100000 ≤ K) : seneschallaw17_PastReads.f K l a t.f0 t.f1 t.f2 = some true := by
  obtain ⟨b, hb, hb2⟩ := great_some l
  unfold seneschallaw17_PastReads.f
  rw [show seneschallaw17_awake.f = some true from rfl]
  simp only [Option.bind_some, if_true]
  by_cases hl : l.length ≤ 80
  · rw [hb K (by omega)]
    simp only [Option.bind_some]
    cases b with
    | true => rw [if_pos rfl]
    | false =>
      have hrl : (refOf l t).length ≤ l.length := List.length_filter_le _ _
      rw [if_neg (by simp), of_any' l t (by omega) K (by omega), refOf_any l t (by omega) K (by omega)]
      simp only [Option.bind_some]
      rw [if_pos trivial]
      refine reads_loop l (refOf l t) a 2000 (by omega) (fun c hc => ?_) (refOf l t).length 0 (by omega) K (by omega)
      have hrr : seneschalref17_Read.f l a = past_Read.f l a := rfl
      have hrs : ∃ L D P, past_Read.f l a = some (L, D, P) ∧ L.length ≤ 100 ∧ D.length ≤ 100 ∧ P.length ≤ 100 := by
        unfold past_Read.f
        rw [if_pos (show l.length ≤ 400 by omega)]
        have := vAt_len l a l.length
        split
        · exact ⟨_, _, _, rfl, by omega, by omega, by omega⟩
        · exact ⟨_, _, _, rfl, by simp, by simp, by simp⟩
      obtain ⟨L, D, P, e, h1, h2, h3⟩ := hrs
      rw [hrr, e]
      simp only [Option.bind_some]
      rw [same_self L D P (by omega) (by omega) (by omega) c (by omega)]
      simp only [Option.bind_some, if_true]
      have hn : past_Needed.f l a = some (needF l a) := by unfold past_Needed.f; rw [if_pos (show l.length ≤ 400 by omega)]
      rw [hn, needed_ref l a (by omega) c (by omega)]
      simp
  · have : seneschallaw17_great.f K l = some true := by
      unfold seneschallaw17_great.f
      rw [if_pos (show (l.length : Int) > 80 by omega)]
    rw [this]
    simp
/-- The row's walk. -/
theorem pastReads_row (W : World) (A : Option Addr) (cap : Nat) (l : List S31) (a : Int) (t : S24) (h : Kd.C k31 W A l.length l) (hc : l.length ≤ cap) (_ht : True) :
    Calls Try.prog 3 #[.slice A l.length cap, .int .i64 a, .agg #[.int .i64 t.f0, .int .i64 t.f1, .int .i64 t.f2]] W fun e W' => e = .returned (.bool true) ∧ Below W.heap.size W W' :=
  seneschallaw17_PastReads.calls 100000 A cap l a t.f0 t.f1 t.f2 true W h hc (past_reads_any l a t 100000 (Nat.le_refl _))
end Go.Proofs.Ytianblmceohmnaa.Hand

namespace Go.Proofs.Ytianblmceohmnaa.pastReads
open Go.ChangeShapes Go.WideShapes Go.ChangeAt Go.RowKit
open Go.ChangeMaps (open_string shut_string)
set_option linter.unusedVariables false
theorem own : ownKnob Try.prog.godebug = none := by kernel_rfl
theorem laidOut : laidOutB Try.prog = true := by kernel_rfl
set_option maxRecDepth 100000 in
theorem lifted (os : Os) (started : os.Started) (H : Type) (enc : TypeId × Value → H) :
    ReturnsInHanded {} Try.checked os 3 .any (Rows.pastReadsSpec.pre6 enc Try.prog Try.f3 Rows.pastReadsRow.domain false) (Rows.pastReadsSpec.post enc Try.prog Try.f3 false true false false) := by
  refine returnsInHanded_of_change_sized (C := Try.checked) own started (by kernel_rfl) Try.func3
    (ChangeSpec.witness6 (enc := enc) (C := Try.checked) false ⟨#[], #[.slice none 0 0, .int .i64 0, .agg #[.int .i64 0, .int .i64 0, .int .i64 0]], []⟩ 8 (by kernel_rfl) (by kernel_rfl) (by kernel_rfl) (by kernel_rfl)) ?_
  intro W base args ds gs before hval0 hW hcnd hsz0 _
  have hval : ∀ (j : Nat) t v, Try.f3.params[j]? = some t → args[j]? = some v → Value.okWide Try.prog W .any base t v := hval0
  have hW' := hW
  obtain ⟨p, q, hA0, hV, rfl, hfz, hnd⟩ := hW
  have hA : DataW.TrodAll enc Try.prog W 0 (fun _ => true) true Try.f3.params.toList args.toList ds p := hA0
  rw [Try.params3] at hA hval
  obtain ⟨v0, vs0, d0, ds0, p0, q0, hargs, rfl, rfl, h0, r0⟩ := trodAll_cons hA
  obtain ⟨v1, vs1, d1, ds1, p1, q1, rfl, rfl, rfl, h1, r1⟩ := trodAll_cons r0
  obtain ⟨v2, vs2, d2, ds2, p2, q2, rfl, rfl, rfl, h2, r2⟩ := trodAll_cons r1
  obtain ⟨rfl, rfl, rfl⟩ := trodAll_nil r2
  obtain rfl : args = #[v0, v1, v2] := by cases args; simp_all
  obtain ⟨rfl, rfl⟩ := trodVars_none hV
  obtain ⟨a0, len0, cap0, rfl⟩ := okWide_slice Try.underlying22 (hval 0 22 v0 rfl rfl)
  have k0 := h0
  have lt0 : ∀ x ∈ p0, x.block < W.heap.size := by obtain ⟨m, hm⟩ := k0; exact DataW.trod_lt m _ _ _ hm
  obtain ⟨l0, w0, e0, c0⟩ : ∃ l, Hand.EntriesIn W a0 len0 cap0 l := by
    obtain ⟨fuel, hf⟩ := h0
    simp only [Value.cells] at hf
    exact Hand.entries_of_trod hf
  subst e0
  obtain ⟨a1, rfl, rfl, rfl, w1⟩ := open_int Try.underlying3 (hval 1 3 v1 rfl rfl) h1
  have k2 := h2
  have lt2 : ∀ x ∈ p2, x.block < W.heap.size := by obtain ⟨m, hm⟩ := k2; exact DataW.trod_lt m _ _ _ hm
  obtain ⟨l2, e2, w2⟩ := Hand.txn_of_trod (hval 2 24 v2 rfl rfl) h2
  subst e2
  clear hA0 hval0 hsz0
  refine (Hand.pastReads_row W a0 cap0 l0 a1 l2 w0 c0 w2).mono fun e W' ⟨he, bel⟩ => ?_
  subst he
  exact ⟨_, rfl, _, _, _, [], _, [], hW', trodAll_mk1 (shut_bool Try.underlying4 _), (trodAll_cons_mk (Below.trod laidOut (by kernel_rfl) (of_decide_eq_true (by kernel_rfl)) k0 bel lt0) (trodAll_cons_mk (shut_int Try.underlying3 w1) (trodAll_cons_mk (Below.trod laidOut (by kernel_rfl) (of_decide_eq_true (by kernel_rfl)) k2 bel lt2) trodAll_mk0))), rfl, bel.frame _, fun h => by cases h⟩
theorem over : Rows.pastReadsRow.holds Try.pinned (OpenSpec.ofChange Rows.pastReadsSpec) :=
  OpenClaim.holds_of_wide 3 Try.f3 rfl rfl rfl rfl rfl rfl rfl ⟨rfl, rfl, rfl, rfl, rfl⟩ rfl rfl rfl rfl rfl (by kernel_rfl) Try.func3 (by kernel_rfl)
    (of_decide_eq_true (by kernel_rfl)) (by unfold Func.isWrapper; first | (rw [if_pos (by decide +kernel)]; kernel_rfl) | (rw [if_neg (by decide +kernel)]; exact ⟨rfl, rfl⟩))
    (fun os started H enc _ => lifted os started H enc)
theorem proved : Rows.PastReadsSaid := over
#print axioms proved
end Go.Proofs.Ytianblmceohmnaa.pastReads
namespace Go.Proofs.Ytianblmceohmnaa
/-- The row, under a short name, for the claim. -/
theorem pastReads_holds : Rows.PastReadsSaid := pastReads.proved
end Go.Proofs.Ytianblmceohmnaa
