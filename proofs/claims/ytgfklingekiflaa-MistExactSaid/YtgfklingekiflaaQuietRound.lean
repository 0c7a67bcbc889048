/- A region that only reads, walked once in the order of its text, inside a round of a range over a function. -/
import Derived.Sort.BigQuietIn
import Derived.Sort.QuietThIn
import Derived.AtR
import Derived.RangeFuncIn
namespace Go.Proofs.Ytgfklingekiflaa
variable {F : Fence} {n : Nat} {P : Program} {ops : Array Oper} {md : Region.Mode} {C : World → Prop}

theorem one_quiet {o : Oper} {a : Act} {K : Act → Prop} {K' : Act → World → Prop} {Q' : Exit → Act → World → Prop} {w : World} (hnd : ∀ c, o.op ≠ .defer c) (hw : C w) (h : ∀ a w', C w' → K a → K' a w')
    (ha : o.askedIn F P a C) (hh : o.quietIn F n P a C K) : o.wpIn F n P a w K' Q' := by
  obtain ⟨v, hv, hk⟩ := hh
  have hv := hv w hw
  refine ⟨ha w hw, ?_⟩
  rw [Oper.semAt_eq _ _ _ hnd]
  unfold Oper.quietAtIn at hv
  cases hr : (execOp a.eval o).run P w with
  | halt x w' => rw [hr] at hv; exact hv.elim
  | ok x w' =>
    rw [hr] at hv
    cases x with
    | value u =>
      obtain ⟨rfl, rfl⟩ := hv
      exact h _ _ hw hk
    | skip =>
      obtain ⟨rfl, rfl⟩ := hv
      exact h _ _ hw hk
    | enter f args =>
      obtain ⟨rfl, hd, hc⟩ := hv
      refine ⟨hd, hc.mono ?_⟩
      rintro e w'' ⟨rfl, hw''⟩
      exact h _ _ hw'' hk
    | _ => exact hv.elim

theorem any_quiet (hnd : ∀ (i : Nat) (o : Oper), ops[i]? = some o → ∀ c, o.op ≠ .defer c) {Q : Act → Prop} {Q' : Exit → Act → World → Prop} (hQ : ∀ a w, C w → Q a → Q' .normal a w) : ∀ (fuel : Nat) (listed : Array Bool) (a : Act) (w : World), C w →
    wpAnyQIn F n P md ops C Q fuel listed a → wpAnyIn F n P md ops Q' fuel listed a w
  | 0, _, _, _, hw, h => ⟨h.1, hQ _ _ hw h.2⟩
  | fuel + 1, listed, a, w, hw, h => by
    refine ⟨fun h0 => hQ _ _ hw (h.1 h0), fun i hi => ?_⟩
    have hq := h.2 i hi
    have rec_ := fun a' w' (hw' : C w') => any_quiet hnd hQ fuel (listed.setIfInBounds i true) a' w' hw'
    unfold qOpIn at hq
    unfold wpOpIn
    cases ho : ops[i]? with
    | none => simp only [ho] at hq; exact rec_ _ _ hw hq
    | some o =>
      simp only [ho] at hq
      obtain ⟨ha, hq⟩ := hq
      by_cases hwant : Region.wanted o (yielded ops a.tmps) = true
      · simp only [hwant, if_true] at hq ⊢
        exact one_quiet (hnd i o ho) hw rec_ ha hq
      · simp only [hwant] at hq ⊢
        exact ⟨ha w hw, rec_ _ _ hw hq⟩

theorem region_quiet_round {id : Nat} {Q : Exit → Act → World → Prop} {a : Act} {w : World} {l : List Oper} (hnd : l.all (fun o => match o.op with | .defer _ => false | _ => true) = true) (hm : P.follows .mixedOrders = true) (hB : Region.lexB .any l.toArray = true)
    (h : wpQuietIn F n P l.toArray (fun w' => ∃ n, w' = w.drewN n) (fun a' => ∀ w', (∃ n, w' = w.drewN n) → Q .normal a' w') l a) : (Code.region id l.toArray true).wpIn F n P Q a w := by
  simp only [Region.lexB, Bool.and_eq_true] at hB
  refine wpIn_region_any hm (any_quiet (C := fun w' => ∃ n, w' = w.drewN n) (Q := fun a' => ∀ w', (∃ n, w' = w.drewN n) → Q .normal a' w') ?_ (fun _ w' hw' h => h w' hw') _ _ _ _ ⟨1, rfl⟩ ?_)
  · intro i o ho c hc
    have hm : o ∈ l := by
      rw [List.getElem?_toArray] at ho
      exact List.mem_of_getElem? ho
    have := List.all_eq_true.1 hnd o hm
    rw [hc] at this
    cases this
  · have := wpAnyQIn_lex (F := F) (n := n) (P := P) (C := fun w' => ∃ n, w' = w.drewN n) (md := .any) hB.1 l 0 (Array.replicate l.toArray.size false) a (by simp) (by simpa using hB.2) h
    simpa using this
end Go.Proofs.Ytgfklingekiflaa
