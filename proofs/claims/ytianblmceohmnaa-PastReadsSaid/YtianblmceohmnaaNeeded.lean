/- The first entry of any transaction that isn't at its end. -/
import Derived.Test.YtianblmceohmnaaEnded
namespace Go.Proofs.Ytianblmceohmnaa.Hand
open Go.RowKit Go.Maps Go.Proofs.Ytianblmceohmnaa.PAll Go.Proofs.YtianblmceohmnaaW.PrintWords Go.Proofs.MapF
set_option linter.unusedVariables false
set_option linter.unusedSimpArgs false

def eq24 (a b : S24) : Bool := a.f0 == b.f0 && (a.f1 == b.f1 && (a.f2 == b.f2))
theorem eq24_iff (a b : S24) : eq24 a b = true ↔ a = b := by
  cases a; cases b; simp [eq24]
theorem eq24_refl (a : S24) : eq24 a a = true := (eq24_iff a a).2 rfl
theorem eq24_ne {a b : S24} (h : a ≠ b) : eq24 a b = false := by
  cases hb : eq24 a b with
  | false => rfl
  | true => exact absurd ((eq24_iff a b).1 hb) h
def atEnd (l : List S31) (t : S24) : Bool := l.any (fun y => good y && isEnd y && eq24 y.f1 t)

theorem endF_get_from (t : S24) (ht : wf24 t) : ∀ (l : List S31) (f : Lit → Option Value),
    l.foldl (fun f x => if good x && isEnd x then upd f (KL x.f1) (some (.bool true)) else f) f (KL t) = if atEnd l t then some (.bool true) else f (KL t)
  | [], f => by simp [atEnd]
  | y :: l, f => by
    rw [List.foldl_cons, endF_get_from t ht l]
    have e : atEnd (y :: l) t = ((good y && isEnd y && eq24 y.f1 t) || atEnd l t) := by simp [atEnd]
    rw [e]
    cases hl : atEnd l t with
    | true => simp
    | false =>
      cases hg : (good y && isEnd y) with
      | false => simp
      | true =>
        simp at hg
        by_cases h : y.f1 = t
        · rw [h, eq24_refl]; simp [upd_same]
        · rw [eq24_ne h]
          simp
          exact upd_other f _ (fun e => h (KL_inj ht (good_wf hg.1) e).symm)
theorem endF_get {t : S24} (ht : wf24 t) (l : List S31) : (endF l (KL t)).getD (.bool false) = .bool (atEnd l t) := by
  unfold endF
  rw [endF_get_from t ht l]
  cases atEnd l t <;> rfl

def isFirst (a : Int) : Bool := decide (1 ≤ a ∧ a ≤ 1099511627776)
theorem isFirst_some (a : Int) : past_isFirst.f a = some (isFirst a) := by
  unfold past_isFirst.f isFirst
  split
  · rename_i h; simp; omega
  · rename_i h; simp; omega
theorem isFirst_calls (a : Int) (w : World) : Calls Try.prog 21 #[.int .i64 a] w fun e w' => e = .returned (.bool (isFirst a)) ∧ Below w.heap.size w w' :=
  (past_isFirst.calls a _ w (isFirst_some a)).mono fun _ _ h => ⟨h.1, h.2.below⟩

def wanted (l : List S31) (x : S31) : Bool := good x && !atEnd l x.f1
def needF (l : List S31) (a : Int) : Int := if isFirst a then (match l.findIdx? (wanted l) with | some i => a + i | none => 0) else 0

theorem needF_at {l : List S31} {a : Int} {i : Nat} {x : S31} (hf : isFirst a = true) (hx : l[i]? = some x) (hn : ∀ j y, j < i → l[j]? = some y → wanted l y = false) (hw : wanted l x = true) : needF l a = a + i := by
  unfold needF
  rw [hf]
  have hlt : i < l.length := (List.getElem?_eq_some_iff.1 hx).1
  have hxe : l[i] = x := (List.getElem?_eq_some_iff.1 hx).2
  have : l.findIdx? (wanted l) = some i := by
    rw [List.findIdx?_eq_some_iff_getElem]
    refine ⟨hlt, by rw [hxe]; exact hw, fun j hj => ?_⟩
    rw [hn j _ hj (List.getElem?_eq_getElem (by omega))]
    simp
  simp [this]
theorem needF_none {l : List S31} {a : Int} (h : ∀ x ∈ l, wanted l x = false) : needF l a = 0 := by
  unfold needF
  have : l.findIdx? (wanted l) = none := by rw [List.findIdx?_eq_none_iff]; exact h
  simp [this]
theorem zero4 (w : World) : (zeroValue 4).run Try.prog w = .ok (.bool false) w := by kernel_rfl

theorem look_end {w : World} {b n : Nat} {l : List S31} (h : At Try.prog 24 w b n (endF l)) {x : S31} (hg : good x = true) {c : Bool} (hc : atEnd l x.f1 = c) :
    (Instr.lookup 53 (.map (some b)) (.agg #[.int .i64 x.f1.f0, .int .i64 x.f1.f1, .int .i64 x.f1.f2]) false).run Try.prog w = .ok (.bool c) w := by
  have := h.look law24 Try.underlying53 (zero4 w) (keyOf_KL (good_wf hg))
  rw [endF_get (good_wf hg), hc] at this
  exact this

set_option maxHeartbeats 8000000 in
set_option maxRecDepth 100000 in
theorem needed_calls (A0 : Option Addr) (c0 : Nat) (l0 : List S31) (a1 : Int) (w : World) (hr0 : Kd.C k31 w A0 l0.length l0) (hc0 : l0.length ≤ c0) (hlen : l0.length ≤ 1000) :
    Calls Try.prog 15 #[.slice A0 l0.length c0, .int .i64 a1] w fun e w' => e = .returned (.int .i64 (needF l0 a1)) ∧ Below w.heap.size w w' := by
  have hif := isFirst_calls a1
  cases hfi : isFirst a1 with
  | false =>
    rw [hfi] at hif
    have HF := Aside0.mk hfi
    clear hfi hr0
    go_enter Try.func15, Try.ntmps15
    go_wp2_with (first | (go_at_call 21; refine (hif _).mono ?_; rintro e w1 ⟨rfl, hb1⟩; have HB1 := Aside0.mk hb1; clear hb1))
    go_ret
    exact ⟨by unfold needF; rw [HF.out]; rfl, HB1.out⟩
  | true =>
    rw [hfi] at hif
    have HF := Aside0.mk hfi
    have hb0 : 1 ≤ a1 ∧ a1 ≤ 1099511627776 := by simpa [isFirst] using hfi
    obtain ⟨hb0, hb0'⟩ := hb0
    have HR := Aside0.mk hr0
    have hen := fun W (h : Kd.C k31 W A0 l0.length l0) => ended_calls A0 c0 l0 W h hc0 hlen
    have hu31 := Try.underlying31
    have hu24 := Try.underlying24
    clear hr0 hfi
    go_enter Try.func15, Try.ntmps15
    go_wp2_with (first
      | (go_at_call 21; refine (hif _).mono ?_; rintro e w1 ⟨rfl, hb1⟩; have HB1 := Aside0.mk hb1; clear hb1)
      | (go_at_call 22; refine (hen _ (Kd.C_below HR.out HB1.out)).mono ?_; rintro e w2 ⟨b, rfl, hbl, hM, hb2⟩; have HB2 := Aside0.mk (below_step HB1.out hb2); have HM2 := Aside0.mk hM; have HL := Aside0.mk (Nat.le_trans (below_size HB1.out) hbl); clear hbl hM hb2 HB1))
    clear hen hif
    go_loopw [15] (fun iv wr => ∃ i : Nat, i ≤ l0.length ∧ iv = .int .i64 i ∧ Aside0 (Below w.heap.size w wr) ∧ Aside0 (At Try.prog 24 wr b l0.length (endF l0)) ∧ Aside0 (∀ j y, j < i → l0[j]? = some y → wanted l0 y = false)) (fun iv _ => l0.length - (intOf iv).toNat)
    case atStart => exact ⟨0, Nat.zero_le _, rfl, HB2, HM2, ⟨fun j y h => absurd h (by omega)⟩⟩
    case round =>
      clear HB2 HM2
      obtain ⟨i, hi, rfl, HB, HM, HN⟩ := hrel
      by_cases hlt : i < l0.length
      · obtain ⟨x, hx⟩ : ∃ x, l0[i]? = some x := ⟨l0[i], by simp [hlt]⟩
        have hrd : rd_T31 l0 (i : Int) = x := by simp [rd_T31, List.getD, hx]
        obtain ⟨ad, e, c0', c1, c2, c3, c4, c5, c6, c7, c8, c9, c10, c11, c12⟩ := at_T31 (Kd.C_below HR.out HB.out) (i : Int) (by omega) (by omega)
        simp only [hrd, Int.toNat_natCast] at c0' c1 c2 c3 c4 c5 c6 c7 c8 c9 c10 c11 c12
        cases e
        have HX := Aside0.mk hx
        clear hx hrd
        have hgc := good_calls x
        cases hg : good x with
        | false =>
          rw [hg] at hgc
          have HG := Aside0.mk hg
          clear hg
          go_wp2_with (first
            | ((with_reducible refine gate_dst (N := 7) rfl ?_); refine box_event ?hg (N := 7) ?hd (cs := zs31) (t := 31) ?hr ?_; (case hd => rfl); (case hg => rfl); (case hr => first | (go_simp; done) | (go_simp; rfl)); intro gb hg w3 hbox hb; have hgs := Aside0.mk (show w.heap.size ≤ gb ∧ b < gb by rw [hg]; exact ⟨below_size HB.out, HM.out.lt⟩); have HB3 := Aside0.mk (below_step HB.out hb); have HM3 := Aside0.mk (HM.out.below hb); clear HB HM hg hb)
            | (refine store_box rfl rfl rfl rfl (seg := vs31 x) rfl hbox rfl size31 (one31 x) ?_; intro w4 hbox4 hgr hsz hbel; have HB4 := Aside0.mk (HB3.out.trans (hbel _ hgs.out.1)); have HM4 := Aside0.mk (HM3.out.kept hgr (fun e => Nat.ne_of_lt hgs.out.2 (by injection e))); obtain ⟨d0, d1, d2, d3, d4, d5, d6, d7, d8, d9, d10, d11, d12⟩ := box31 (x := x) rfl hbox4; have BX := Aside0.mk hbox4; clear hbox4 hgr hsz hbel HB3 HM3 hbox)
            | (go_at_call 18; refine (hgc _).mono ?_; rintro e w5 ⟨rfl, hb5⟩; have HB5 := Aside0.mk (below_step HB4.out hb5); have HM5 := Aside0.mk (HM4.out.below hb5); have BX5 := Aside0.mk (blk_below BX.out hb5); clear HB4 HM4 BX d0 d1 d2 d3 d4 d5 d6 d7 d8 d9 d10 d11 d12 hb5; obtain ⟨d0, d1, d2, d3, d4, d5, d6, d7, d8, d9, d10, d11, d12⟩ := box31 (x := x) rfl BX5.out))
          go_roundw
          case rel => exact ⟨i + 1, by omega, by simp, HB5, HM5, ⟨fun j y hj hy => by
            rcases Nat.lt_or_ge j i with h | h
            · exact HN.out j y h hy
            · obtain rfl : j = i := by omega
              rw [HX.out] at hy; cases hy; simp [wanted, HG.out]⟩⟩
          case measure => simp [intOf]; omega
        | true =>
          rw [hg] at hgc
          have HG := Aside0.mk hg
          clear hg
          cases he : atEnd l0 x.f1 with
          | true =>
            have HE := Aside0.mk he
            clear he
            go_wp2_with (first
              | ((with_reducible refine gate_dst (N := 7) rfl ?_); refine box_event ?hg (N := 7) ?hd (cs := zs31) (t := 31) ?hr ?_; (case hd => rfl); (case hg => rfl); (case hr => first | (go_simp; done) | (go_simp; rfl)); intro gb hg w3 hbox hb; have hgs := Aside0.mk (show w.heap.size ≤ gb ∧ b < gb by rw [hg]; exact ⟨below_size HB.out, HM.out.lt⟩); have HB3 := Aside0.mk (below_step HB.out hb); have HM3 := Aside0.mk (HM.out.below hb); clear HB HM hg hb)
              | (refine store_box rfl rfl rfl rfl (seg := vs31 x) rfl hbox rfl size31 (one31 x) ?_; intro w4 hbox4 hgr hsz hbel; have HB4 := Aside0.mk (HB3.out.trans (hbel _ hgs.out.1)); have HM4 := Aside0.mk (HM3.out.kept hgr (fun e => Nat.ne_of_lt hgs.out.2 (by injection e))); obtain ⟨d0, d1, d2, d3, d4, d5, d6, d7, d8, d9, d10, d11, d12⟩ := box31 (x := x) rfl hbox4; have BX := Aside0.mk hbox4; clear hbox4 hgr hsz hbel HB3 HM3 hbox)
              | (go_at_call 18; refine (hgc _).mono ?_; rintro e w5 ⟨rfl, hb5⟩; have HB5 := Aside0.mk (below_step HB4.out hb5); have HM5 := Aside0.mk (HM4.out.below hb5); have BX5 := Aside0.mk (blk_below BX.out hb5); clear HB4 HM4 BX d0 d1 d2 d3 d4 d5 d6 d7 d8 d9 d10 d11 d12 hb5; obtain ⟨d0, d1, d2, d3, d4, d5, d6, d7, d8, d9, d10, d11, d12⟩ := box31 (x := x) rfl BX5.out; have hlk := look_end HM5.out HG.out HE.out))
            go_roundw
            case rel => exact ⟨i + 1, by omega, by simp, HB5, HM5, ⟨fun j y hj hy => by
              rcases Nat.lt_or_ge j i with h | h
              · exact HN.out j y h hy
              · obtain rfl : j = i := by omega
                rw [HX.out] at hy; cases hy; simp [wanted, HG.out, HE.out]⟩⟩
            case measure => simp [intOf]; omega
          | false =>
            have HE := Aside0.mk he
            clear he
            go_wp2_with (first
              | ((with_reducible refine gate_dst (N := 7) rfl ?_); refine box_event ?hg (N := 7) ?hd (cs := zs31) (t := 31) ?hr ?_; (case hd => rfl); (case hg => rfl); (case hr => first | (go_simp; done) | (go_simp; rfl)); intro gb hg w3 hbox hb; have hgs := Aside0.mk (show w.heap.size ≤ gb ∧ b < gb by rw [hg]; exact ⟨below_size HB.out, HM.out.lt⟩); have HB3 := Aside0.mk (below_step HB.out hb); have HM3 := Aside0.mk (HM.out.below hb); clear HB HM hg hb)
              | (refine store_box rfl rfl rfl rfl (seg := vs31 x) rfl hbox rfl size31 (one31 x) ?_; intro w4 hbox4 hgr hsz hbel; have HB4 := Aside0.mk (HB3.out.trans (hbel _ hgs.out.1)); have HM4 := Aside0.mk (HM3.out.kept hgr (fun e => Nat.ne_of_lt hgs.out.2 (by injection e))); obtain ⟨d0, d1, d2, d3, d4, d5, d6, d7, d8, d9, d10, d11, d12⟩ := box31 (x := x) rfl hbox4; have BX := Aside0.mk hbox4; clear hbox4 hgr hsz hbel HB3 HM3 hbox)
              | (go_at_call 18; refine (hgc _).mono ?_; rintro e w5 ⟨rfl, hb5⟩; have HB5 := Aside0.mk (below_step HB4.out hb5); have HM5 := Aside0.mk (HM4.out.below hb5); have BX5 := Aside0.mk (blk_below BX.out hb5); clear HB4 HM4 BX d0 d1 d2 d3 d4 d5 d6 d7 d8 d9 d10 d11 d12 hb5; obtain ⟨d0, d1, d2, d3, d4, d5, d6, d7, d8, d9, d10, d11, d12⟩ := box31 (x := x) rfl BX5.out; have hlk := look_end HM5.out HG.out HE.out))
            go_ret
            refine ⟨congrArg (fun z => Ending.returned (Value.int .i64 z)) (needF_at HF.out HX.out HN.out (by simp [wanted, HG.out, HE.out])).symm, HB5.out⟩
      · obtain rfl : i = l0.length := by omega
        go_wp2
        go_ret
        exact ⟨congrArg (fun z => Ending.returned (Value.int .i64 z)) (needF_none (fun x hx => by obtain ⟨j, hj, rfl⟩ := List.getElem_of_mem hx; exact HN.out j _ hj (by simp))).symm, HB.out⟩
end Go.Proofs.Ytianblmceohmnaa.Hand
