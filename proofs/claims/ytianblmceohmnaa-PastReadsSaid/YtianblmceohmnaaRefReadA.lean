/- The reference's Read, walked: up to who is done. -/
import Derived.Test.YtianblmceohmnaaRefRead
namespace Go.Proofs.Ytianblmceohmnaa.Hand
open Go.RowKit Go.Maps Go.Proofs.Ytianblmceohmnaa.PAll Go.Proofs.YtianblmceohmnaaW.PrintWords Go.Proofs.YtianblmceohmnaaW.PrintLast Go.Proofs.YtianblmceohmnaaW.PrintMore Go.Proofs.MapF
set_option linter.unusedVariables false
set_option linter.unusedSimpArgs false
set_option maxRecDepth 100000
attribute [local go_sem high] eqA24

theorem insL_l (t : S24) (v : Int) : ∀ L, (insL t v L).length ≤ L.length + 1
  | [] => by simp [insL]
  | y :: r => by
    unfold insL
    split
    · simp
    · split
      · simp
      · have := insL_l t v r
        simp; omega
theorem insP_l (t v : Int) : ∀ L, (insP t v L).length ≤ L.length + 1
  | [] => by simp [insP]
  | y :: r => by
    unfold insP
    split
    · simp
    · split
      · simp
      · have := insP_l t v r
        simp; omega
theorem vAt_len (l : List S31) (a : Int) : ∀ i, (vAt l a i).losers.length ≤ i ∧ (vAt l a i).done.length ≤ i ∧ (vAt l a i).pages.length ≤ i
  | 0 => by simp [vAt]
  | i + 1 => by
    obtain ⟨h1, h2, h3⟩ := vAt_len l a i
    rw [vAt]
    cases l[i]? with
    | none => dsimp only; omega
    | some x =>
      dsimp only
      unfold vstep
      split
      · dsimp only
        refine ⟨?_, ?_, ?_⟩
        · split
          · omega
          · have := insL_l x.f1 x.f2 (vAt l a i).losers; omega
        · split
          · simp; omega
          · omega
        · split
          · omega
          · have := insP_l x.f4 (a + i) (vAt l a i).pages; omega
      · omega
theorem stepL_len (t : S24) (v : Int) (s : List S43 × Bool) (y : S43) : (stepL t v s y).1.length ≤ s.1.length + 2 := by
  unfold stepL
  dsimp only
  split <;> split <;> simp
theorem foldl_snoc {α β : Type} (f : β → α → β) (l : List α) (b : β) {k : Nat} {y : α} (h : l[k]? = some y) : (l.take (k + 1)).foldl f b = f ((l.take k).foldl f b) y := by
  rw [List.take_add_one, h]
  simp

/-- What is proved in another text. -/
structure HeldP (P : Prop) : Prop where
  out : P
set_option maxHeartbeats 16000000 in
noncomputable def refReadA : (P : Prop) ×' (HeldP P → ∀ (A0 : Option Addr) (c0 : Nat) (l0 : List S31) (a1 : Int) (w : World) (hf : isFirst a1 = true) (hr0 : Kd.C k31 w A0 l0.length l0) (hc0 : l0.length ≤ c0) (hlen : l0.length ≤ 400), Calls Try.prog 14 #[.slice A0 l0.length c0, .int .i64 a1] w fun e w' => ∃ (v0 v1 v2 : Value), e = .returned (.agg #[v0, v1, v2]) ∧       w'.ownsRow w.heap.size 43 4 v0 (vAt l0 a1 l0.length).losers.length ((vAt l0 a1 l0.length).losers.flatMap cells43) ∧       w'.ownsRow w.heap.size 24 3 v1 (vAt l0 a1 l0.length).done.length (rows24 (vAt l0 a1 l0.length).done) ∧       w'.ownsRow w.heap.size 45 2 v2 (vAt l0 a1 l0.length).pages.length ((vAt l0 a1 l0.length).pages.flatMap cells45) ∧ Below w.heap.size w w') := by
 apply PSigma.mk
 case snd =>
  intro rest_ A0 c0 l0 a1 w hf hr0 hc0 hlen
  have hb0 : 1 ≤ a1 ∧ a1 ≤ 1099511627776 := by simpa [isFirst] using hf
  obtain ⟨hb0, hb0'⟩ := hb0
  have n1 : decide (a1 < 1) = false := decide_eq_false (by omega)
  have n2 : decide (1099511627776 < a1) = false := decide_eq_false (by omega)
  have HR := Aside0.mk hr0
  have HBD := Aside0.mk (And.intro hb0 hb0')
  have HLEN := Aside0.mk hlen
  have hu37 := Try.underlying37
  have hu31 := Try.underlying31
  have hu24 := Try.underlying24
  have hu43 := Try.underlying43
  have hu45 := Try.underlying45
  clear hr0 hf hb0 hb0'
  go_enter Try.func14, Try.ntmps14
  go_wp2_with (first
    | ((with_reducible refine gate_dst (N := 4) rfl ?_); refine box_event ?hg (N := 4) ?hd (cs := nils) (t := 37) ?hr ?_; (case hd => rfl); (case hg => rfl); (case hr => first | (go_simp; done) | (go_simp; rfl)); intro rb hg w1 hbox hb; have HB1 := Aside0.mk hb; have HRB := Aside0.mk (Nat.le_of_eq hg.symm); have RX := Aside0.mk hbox; clear hb hg hbox)
    | ((with_reducible refine gate_dst (N := 5) rfl ?_); refine box_event ?hg (N := 5) ?hd (cs := nils) (t := 37) ?hr ?_; (case hd => rfl); (case hg => rfl); (case hr => first | (go_simp; done) | (go_simp; rfl)); intro gv hg w2 hbox hb; have HB2 := Aside0.mk (below_step HB1.out hb); have HGV := Aside0.mk (show w.heap.size ≤ gv ∧ rb < gv by rw [hg]; exact ⟨below_size HB1.out, blk_lt RX.out⟩); have RX2 := Aside0.mk (blk_below RX.out hb); clear hb hg RX HB1)
    | (have hbox' := hbox; refine store_box rfl rfl rfl rfl (seg := nils) rfl hbox' rfl size37 (oneS _ _ _ ⟨_, _, _, rfl⟩ ⟨_, _, _, rfl⟩ ⟨_, _, _, rfl⟩) ?_; intro w3 hbox3 hgr hsz hbel; have HB3 := Aside0.mk (HB2.out.trans (hbel _ HGV.out.1)); have RX3 := Aside0.mk (blk_grown RX2.out hgr (fun e => Nat.ne_of_lt HGV.out.2 (by injection e))); have VX3 := Aside0.mk hbox3; clear hbox' hbox hbox3 hgr hsz hbel HB2 RX2))
  have HS0 : Aside0 (Rf w w3 gv rb (.slice none 0 0) (.slice none 0 0) (.slice none 0 0) (vAt l0 a1 0).losers (vAt l0 a1 0).done (vAt l0 a1 0).pages) :=
    ⟨⟨HB3.out, VX3.out, RX3.out, own_nil _ _ _ _, own_nil _ _ _ _, own_nil _ _ _ _, fun e => Nat.ne_of_lt HGV.out.2 e.symm, HGV.out.1, HRB.out⟩⟩
  clear HB3 VX3 RX3 HGV HRB n1 n2
  go_loopg [6] (l0.length) (fun kq iv wr => ∃ (i : Nat) (lv dv pv : Value), i + kq = l0.length ∧ iv = .int .i64 i ∧ Aside0 (Rf w wr gv rb lv dv pv (vAt l0 a1 i).losers (vAt l0 a1 i).done (vAt l0 a1 i).pages))
  case atStart => exact ⟨0, _, _, _, by omega, rfl, HS0⟩
  case round =>
    clear HS0
    obtain ⟨i, lv, dv, pv, hi, rfl, HS⟩ := hrel
    cases gk with
    | zero =>
      obtain rfl : i = l0.length := by omega
      obtain ⟨A6, cp6, e6⟩ := slice_of HS.out.o
      obtain ⟨A7, cp7, e7⟩ := slice_of HS.out.d
      obtain ⟨A8, cp8, e8⟩ := slice_of HS.out.q
      subst e6 e7 e8
      generalize hL : (vAt l0 a1 l0.length).losers = L at *
      generalize hD : (vAt l0 a1 l0.length).done = D at *
      generalize hP : (vAt l0 a1 l0.length).pages = P at *
      have EL := Aside0.mk hL
      have ED := Aside0.mk hD
      have EP := Aside0.mk hP
      clear hL hD hP
      have g0 : wr.cell? ⟨gv, 0, none⟩ = some (.slice A6 L.length cp6) := (blk_cell HS.out.v 0).trans rfl
      have g1 : wr.cell? ⟨gv, 1, none⟩ = some (.slice A7 D.length cp7) := (blk_cell HS.out.v 1).trans rfl
      have g2 : wr.cell? ⟨gv, 2, none⟩ = some (.slice A8 P.length cp8) := (blk_cell HS.out.v 2).trans rfl
      go_wp2_with (have HSr := HS.out.r; refine store_box rfl rfl rfl rfl (seg := #[.slice A6 L.length cp6, .slice A7 D.length cp7, .slice A8 P.length cp8]) rfl HSr rfl size37 (oneS _ _ _ ⟨_, _, _, rfl⟩ ⟨_, _, _, rfl⟩ ⟨_, _, _, rfl⟩) ?_; intro w20 hbox20 hgr20 hsz hbel; have BX20 := Aside0.mk hbox20; have HB20 := Aside0.mk (HS.out.below.trans (hbel _ HS.out.bases.2)); have O20 := Aside0.mk (own_past_view HS.out.o HS.out.r (by decide) hgr20); have D20 := Aside0.mk (own_past_view HS.out.d HS.out.r (by decide) hgr20); have Q20 := Aside0.mk (own_past_view HS.out.q HS.out.r (by decide) hgr20); clear HSr hbox20 hgr20 hsz hbel)
      refine bodyPost_ret (v := .agg #[.slice A6 L.length cp6, .slice A7 D.length cp7, .slice A8 P.length cp8]) (results_c rfl _ _ rb 37 _ (0, 0) _ rfl BX20.out hu37 rfl size37) rfl ?_
      rw [EL.out, ED.out, EP.out]
      exact ⟨_, _, _, rfl, O20.out, D20.out, Q20.out, HB20.out⟩
    | succ gko =>
      obtain ⟨x, hx⟩ : ∃ x, l0[i]? = some x := ⟨l0[i], by simp⟩
      have hlt : i < l0.length := by omega
      have hrd : rd_T31 l0 (i : Int) = x := by simp [rd_T31, List.getD, hx]
      obtain ⟨ad, e, c0', c1, c2, c3, c4, c5, c6, c7, c8, c9, c10, c11, c12⟩ := at_T31 (Kd.C_below HR.out HS.out.below) (i : Int) (by omega) (by omega)
      simp only [hrd, Int.toNat_natCast] at c0' c1 c2 c3 c4 c5 c6 c7 c8 c9 c10 c11 c12
      cases e
      have HX := Aside0.mk hx
      clear hx hrd
      have hgc := refGood_calls x
      cases hg : good x with
      | false =>
        rw [hg] at hgc
        have HG := Aside0.mk hg
        clear hg
        go_wp2_with (first
          | ((with_reducible refine gate_dst (N := 7) rfl ?_); refine box_event ?hg (N := 7) ?hd (cs := zs31) (t := 31) ?hr ?_; (case hd => rfl); (case hg => rfl); (case hr => first | (go_simp; done) | (go_simp; rfl)); intro xb hg w5 hbox hb; have hgs := Aside0.mk (show w.heap.size ≤ xb by rw [hg]; exact below_size HS.out.below); have HS5 := Aside0.mk (HS.out.step hb); clear HS hg hb)
          | (have hbox' := hbox; refine store_box rfl rfl rfl rfl (seg := vs31 x) rfl hbox' rfl size31 (one31 x) ?_; intro w6 hbox6 hgr6 hsz hbel; have HS6 := Aside0.mk (HS5.out.box hbox hgs.out hgr6); obtain ⟨d0, d1, d2, d3, d4, d5, d6, d7, d8, d9, d10, d11, d12⟩ := box31 (x := x) rfl hbox6; have BX := Aside0.mk hbox6; clear hbox' hbox6 hgr6 hsz hbel HS5 hbox)
          | (go_at_call 20; refine (hgc _).mono ?_; rintro e w7 ⟨rfl, hb7⟩; have HS7 := Aside0.mk (HS6.out.step hb7); clear HS6 BX d0 d1 d2 d3 d4 d5 d6 d7 d8 d9 d10 d11 d12 hb7))
        go_roundg gko
        case measure => omega
        case rel => exact ⟨i + 1, lv, dv, pv, by omega, by simp, by
          rw [vAt_succ HX.out]
          have e : vstep l0 a1 i x (vAt l0 a1 i) = vAt l0 a1 i := by unfold vstep; rw [HG.out]; rfl
          rw [e]
          exact HS7⟩
      | true =>
        rw [hg] at hgc
        have HG := Aside0.mk hg
        clear hg
        have hvl : (vstep l0 a1 i x (vAt l0 a1 i)).losers = if atEnd l0 x.f1 then (vAt l0 a1 i).losers else insL x.f1 x.f2 (vAt l0 a1 i).losers := by unfold vstep; rw [HG.out]; rfl
        have hvd : (vstep l0 a1 i x (vAt l0 a1 i)).done = if x.f0 == 3 && !hasT (vAt l0 a1 i).done x.f1 then (vAt l0 a1 i).done ++ [x.f1] else (vAt l0 a1 i).done := by unfold vstep; rw [HG.out]; rfl
        have hvp : (vstep l0 a1 i x (vAt l0 a1 i)).pages = if isEnd x then (vAt l0 a1 i).pages else insP x.f4 (a1 + i) (vAt l0 a1 i).pages := by unfold vstep; rw [HG.out]; rfl
        have hln := vAt_len l0 a1 i
        have hrl := (rep_at l0 a1 i).riseL
        have hrp := (rep_at l0 a1 i).riseP
        rw [← vAt_succ HX.out] at hvl hvd hvp
        generalize hL1 : (vAt l0 a1 (i + 1)).losers = L' at *
        generalize hD1 : (vAt l0 a1 (i + 1)).done = D' at *
        generalize hP1 : (vAt l0 a1 (i + 1)).pages = P' at *
        have HL1 := Aside0.mk hL1
        have HD1 := Aside0.mk hD1
        have HP1 := Aside0.mk hP1
        clear hL1 hD1 hP1
        generalize (vAt l0 a1 i).losers = L at *
        generalize (vAt l0 a1 i).done = D at *
        generalize (vAt l0 a1 i).pages = P at *
        have HVL := Aside0.mk hvl
        have HVD := Aside0.mk hvd
        have HVP := Aside0.mk hvp
        have HLN := Aside0.mk hln
        have HRL := Aside0.mk hrl
        have HRP := Aside0.mk hrp
        clear hvl hvd hvp hln hrl hrp
        have hel := fun W (h : Kd.C k31 W (some ad) l0.length l0) => refEnded_calls (some ad) c0 l0 x.f1 W h hc0 (by omega)
        go_upto_if 41 with (first
          | ((with_reducible refine gate_dst (N := 7) rfl ?_); refine box_event ?hg (N := 7) ?hd (cs := zs31) (t := 31) ?hr ?_; (case hd => rfl); (case hg => rfl); (case hr => first | (go_simp; done) | (go_simp; rfl)); intro xb hg w5 hbox hb; have hgs := Aside0.mk (show w.heap.size ≤ xb by rw [hg]; exact below_size HS.out.below); have HS5 := Aside0.mk (HS.out.step hb); clear HS hg hb)
          | (have hbox' := hbox; refine store_box rfl rfl rfl rfl (seg := vs31 x) rfl hbox' rfl size31 (one31 x) ?_; intro w6 hbox6 hgr6 hsz hbel; have HS6 := Aside0.mk (HS5.out.box hbox hgs.out hgr6); obtain ⟨d0, d1, d2, d3, d4, d5, d6, d7, d8, d9, d10, d11, d12⟩ := box31 (x := x) rfl hbox6; have BX := Aside0.mk hbox6; clear hbox' hbox6 hgr6 hsz hbel HS5 hbox)
          | (go_at_call 20; refine (hgc _).mono ?_; rintro e w7 ⟨rfl, hb7⟩; have HS7 := Aside0.mk (HS6.out.step hb7); have BX7 := Aside0.mk (blk_below BX.out hb7); clear HS6 BX d0 d1 d2 d3 d4 d5 d6 d7 d8 d9 d10 d11 d12 hb7; obtain ⟨d0, d1, d2, d3, d4, d5, d6, d7, d8, d9, d10, d11, d12⟩ := box31 (x := x) rfl BX7.out)
          | (go_at_call 30; refine (hel _ (Kd.C_below HR.out HS7.out.below)).mono ?_; rintro e w8 ⟨rfl, hb8⟩; have HS8 := Aside0.mk (HS7.out.step hb8); have BX8 := Aside0.mk (blk_below BX7.out hb8); clear HS7 BX7 d0 d1 d2 d3 d4 d5 d6 d7 d8 d9 d10 d11 d12 hb8))
        clear hgc hel c0' c1 c2 c3 c4 c5 c6 c7 c8 c9 c10 c11 c12
        go_cut [] (fun wx => ∃ lv', Aside0 (Rf w wx gv rb lv' dv pv L' D P) ∧ Aside0 (wx.heap[xb]? = some (.cells (vs31 x) 31 (0, 0))))
        case first =>
          clear HVD HVP HRP
          cases he : atEnd l0 x.f1 with
          | true =>
            have HE := Aside0.mk he
            clear he
            go_wp2_with fail
            go_meet
            case rel => exact ⟨lv, ⟨by rw [HVL.out, HE.out]; exact HS8.out⟩, BX8⟩
          | false =>
            have HE := Aside0.mk he
            clear he
            go_wp2_with fail
            have HQ0 := Aside0.mk (Lq.lit HS8.out BX8.out hgs.out)
            clear HS8 BX8
            go_loopg [8, 9, 10] (L.length) (fun kq nv bv kv wr => ∃ (k : Nat) (N : List S43) (b : Bool), k + kq = L.length ∧ bv = .bool b ∧ kv = .int .i64 k ∧ Aside0 ((L.take k).foldl (stepL x.f1 x.f2) ([], false) = (N, b)) ∧ Aside0 (N.length ≤ 2 * k) ∧ Aside0 (Lq w wr gv rb xb x lv dv pv nv L D P N))
            case atStart => exact ⟨0, [], false, by omega, rfl, rfl, ⟨rfl⟩, ⟨Nat.le_refl _⟩, HQ0⟩
            case round =>
              clear HQ0
              obtain ⟨k, N, b, hk, rfl, rfl, HF, HNL, HQ⟩ := hrel
              cases gk with
              | zero =>
                obtain rfl : k = L.length := by omega
                have hF := HF.out
                rw [List.take_length] at hF
                have hfin := foldL x.f1 x.f2 L [] HRL.out
                rw [hF, List.nil_append] at hfin
                have HFIN : Aside0 (L' = finL x.f1 x.f2 (N, b)) := ⟨by rw [HVL.out, HE.out, hfin]; rfl⟩
                clear hF hfin
                obtain ⟨A9, cp9, e9⟩ := slice_of HQ.out.n.row
                subst e9
                obtain ⟨A4, cp4, e4⟩ := slice_of HQ.out.s.o
                subst e4
                have GVX := Aside0.mk (show xb ≠ gv from fun e => by have h1 := HQ.out.s.v; have h2 := HQ.out.x; rw [← e, h2] at h1; injection h1 with h1; injection h1 with _ h1; exact absurd h1 (by decide))
                cases b with
                | true =>
                  have g0 : wr.cell? ⟨gv, 0, none⟩ = some (.slice (A4) L.length cp4) := (blk_cell HQ.out.s.v 0).trans rfl
                  have f0 := blk_frozen HQ.out.s.v 0
                  go_wp2_with fail
                  go_meet
                  case rel => exact ⟨_, ⟨by rw [HFIN.out]; exact HQ.out.s.putL HQ.out.n.row⟩, ⟨blk_far HQ.out.x GVX.out _⟩⟩
                | false =>
                  have g0 : wr.cell? ⟨gv, 0, none⟩ = some (.slice (A4) L.length cp4) := (blk_cell HQ.out.s.v 0).trans rfl
                  obtain ⟨d0, d1, d2, d3, d4, _⟩ := box31 (x := x) rfl HQ.out.x
                  obtain ⟨i0, hi0, hz0, hz1, hz2⟩ := info_parts info43
                  have hNL := HNL.out
                  have hLL := HLN.out.1
                  go_wp2_with (at_builtin; refine wpList_append_lies _ rfl (.tmp 98) (.tmp 104) 33 rfl w.heap.size 43 i0 _ 4 32 Try.underlying33 hi0 hz0 hz1 hz2 rfl (by decide) _ N.length (N.flatMap cells43) rfl (HQ.out.n.row.alloc _) ⟨_, 0, none⟩ 1 1 (cells43 ⟨x.f1, x.f2⟩) rfl rfl (World.news_of_block (blk_new _ (.cells #[.int .i64 x.f1.f0, .int .i64 x.f1.f1, .int .i64 x.f1.f2, .int .i64 x.f2] 43))) (one43 x.f1 x.f2) (by decide) (by unfold maxLen; omega) (by omega) (by have := HQ.out.s.below.size; simp; omega) _ rfl ?_; intro g cap w10 hown hgrow hat hltg; have HQ10 := Aside0.mk (HQ.out.append (y := ⟨x.f1, x.f2⟩) hown hgrow hat); have g1 : w10.cell? ⟨gv, 0, none⟩ = some (.slice A4 L.length cp4) := (blk_cell HQ10.out.s.v 0).trans rfl; have f1 := blk_frozen HQ10.out.s.v 0; clear hown hgrow hat hltg g0 d0 d1 d2 d3 d4)
                  go_meet
                  case rel => exact ⟨_, ⟨by rw [HFIN.out]; exact HQ10.out.s.putL HQ10.out.n.row⟩, ⟨blk_far HQ10.out.x GVX.out _⟩⟩
              | succ gk =>
                obtain ⟨y, hy⟩ : ∃ y, L[k]? = some y := ⟨L[k]'(by omega), List.getElem?_eq_getElem _⟩
                obtain ⟨A4, cp4, e4⟩ := slice_of HQ.out.s.o
                subst e4
                obtain ⟨_, _, hr4⟩ := own_reads (d := k43) (enc := cells43) (fun w x => k43_mk w x) (fun _ => rfl) HQ.out.s.o
                obtain ⟨ad4, e4', _⟩ := hr4.2.2 (by omega)
                subst e4'
                clear hr4
                obtain ⟨A9, cp9, e9⟩ := slice_of HQ.out.n.row
                subst e9
                have hstep := foldl_snoc (stepL x.f1 x.f2) L ([], false) hy
                rw [HF.out] at hstep
                have HST := Aside0.mk hstep
                have hlen2 := stepL_len x.f1 x.f2 (N, b) y
                have HL2 := Aside0.mk hlen2
                have HY := Aside0.mk hy
                obtain ⟨s0, s1, s2, s3, s4, s5, s6, s7, s8⟩ := HQ.out.cells hy
                clear hstep hlen2 hy
                have hNL := HNL.out
                have hLL := HLN.out.1
                obtain ⟨i0, hi0, hz0, hz1, hz2⟩ := info_parts info43
                obtain ⟨lt, hlt1⟩ : ∃ lt, decide (Lt24 x.f1 y.f0) = lt := ⟨_, rfl⟩
                have hls := fun W => refLess_calls x.f1 y.f0 hlt1 W
                obtain ⟨q, hq⟩ : ∃ q, (y.f0.f0 == x.f1.f0 && (y.f0.f1 == x.f1.f1 && (y.f0.f2 == x.f1.f2))) = q := ⟨_, rfl⟩
                have hq0 : eq24 y.f0 x.f1 = q := hq
                have hlt0 := hlt1
                cases b with
                | true =>
                  go_upto_region 15 with fail
                  go_region
                  have hlt0 : True := trivial
                  cases q with
                  | true =>
                    go_upto_region 18 with fail
                    go_region
                    go_wp2_with ((at_builtin; refine wpList_append_lies _ rfl (.tmp 80) (.tmp 86) 33 rfl w.heap.size 43 i0 _ 4 32 Try.underlying33 hi0 hz0 hz1 hz2 rfl (by decide) _ (N).length ((N).flatMap cells43) rfl ?own ⟨_, 0, none⟩ 1 1 (cells43 ⟨x.f1, x.f2⟩) rfl rfl (World.news_of_block (blk_new _ (.cells #[(.int .i64 x.f1.f0), (.int .i64 x.f1.f1), (.int .i64 x.f1.f2), (.int .i64 x.f2)] 43))) (one43 x.f1 x.f2) (by decide) (by unfold maxLen; (try rw [List.length_append, List.length_singleton]); omega) (by (try rw [List.length_append, List.length_singleton]); omega) (by have := HQ.out.s.below.size; simp; omega) _ rfl ?_; (case own => first | exact HQ.out.n.row.alloc _ | exact HQ.out.drew.n.row.alloc _ | exact HQ.out.drew.drew.n.row.alloc _ | exact (HQ.out.drewN _).n.row.alloc _); intro g1 cap1 w11 hown hgrow hat hltg; have HQ1 : Aside0 (Lq w w11 gv rb xb x (.slice (some ad4) L.length cp4) dv pv (.slice (some ⟨g1, 0, none⟩) ((N).length + 1) cap1) L D P ((N) ++ [(⟨x.f1, x.f2⟩ : S43)])) := ⟨by first | exact HQ.out.append (y := ⟨x.f1, x.f2⟩) hown hgrow hat | exact HQ.out.drew.append (y := ⟨x.f1, x.f2⟩) hown hgrow hat | exact HQ.out.drew.drew.append (y := ⟨x.f1, x.f2⟩) hown hgrow hat | exact (HQ.out.drewN _).append (y := ⟨x.f1, x.f2⟩) hown hgrow hat⟩; clear hown hgrow hat hltg; (try clear s0 s1 s2 s3 s4 s5 s6 s7 s8); obtain ⟨s0, s1, s2, s3, s4, s5, s6, s7, s8⟩ := HQ1.out.cells HY.out))
                    go_roundg gk
                    case measure => omega
                    case rel => exact ⟨k + 1, (N) ++ [(⟨x.f1, x.f2⟩ : S43)], true, by omega, rfl, by simp, ⟨by rw [HST.out]; simp [stepL, hlt0, hq0]⟩, ⟨by simp; omega⟩, HQ1⟩
                  | false =>
                    go_upto_region 18 with fail
                    go_region
                    go_wp2_with ((at_builtin; refine wpList_append_lies _ rfl (.tmp 88) (.tmp 94) 33 rfl w.heap.size 43 i0 _ 4 32 Try.underlying33 hi0 hz0 hz1 hz2 rfl (by decide) _ (N).length ((N).flatMap cells43) rfl ?own ⟨_, 0, none⟩ 1 1 (cells43 y) rfl rfl (World.news_of_block (blk_new _ (.cells #[(.int .i64 y.f0.f0), (.int .i64 y.f0.f1), (.int .i64 y.f0.f2), (.int .i64 y.f1)] 43))) (one43 y.f0 y.f1) (by decide) (by unfold maxLen; (try rw [List.length_append, List.length_singleton]); omega) (by (try rw [List.length_append, List.length_singleton]); omega) (by have := HQ.out.s.below.size; simp; omega) _ rfl ?_; (case own => first | exact HQ.out.n.row.alloc _ | exact HQ.out.drew.n.row.alloc _ | exact HQ.out.drew.drew.n.row.alloc _ | exact (HQ.out.drewN _).n.row.alloc _); intro g1 cap1 w11 hown hgrow hat hltg; have HQ1 : Aside0 (Lq w w11 gv rb xb x (.slice (some ad4) L.length cp4) dv pv (.slice (some ⟨g1, 0, none⟩) ((N).length + 1) cap1) L D P ((N) ++ [(y : S43)])) := ⟨by first | exact HQ.out.append (y := y) hown hgrow hat | exact HQ.out.drew.append (y := y) hown hgrow hat | exact HQ.out.drew.drew.append (y := y) hown hgrow hat | exact (HQ.out.drewN _).append (y := y) hown hgrow hat⟩; clear hown hgrow hat hltg; (try clear s0 s1 s2 s3 s4 s5 s6 s7 s8); obtain ⟨s0, s1, s2, s3, s4, s5, s6, s7, s8⟩ := HQ1.out.cells HY.out))
                    go_roundg gk
                    case measure => omega
                    case rel => exact ⟨k + 1, (N) ++ [(y : S43)], true, by omega, rfl, by simp, ⟨by rw [HST.out]; simp [stepL, hlt0, hq0]⟩, ⟨by simp; omega⟩, HQ1⟩
                | false =>
                  cases lt with
                  | true =>
                    go_upto_region 15 with fail
                    go_region_held3 (fun W => W.cell? ⟨gv, 0, none⟩ = some (.slice (some ad4) L.length cp4) ∧ W.cell? ⟨xb, 1, none⟩ = some (.int .i64 x.f1.f0) ∧ W.cell? ⟨xb, 2, none⟩ = some (.int .i64 x.f1.f1) ∧ W.cell? ⟨xb, 3, none⟩ = some (.int .i64 x.f1.f2) ∧ W.cell? (ad4.add (k * 4)) = some (.int .i64 y.f0.f0) ∧ W.cell? ⟨(ad4.add (k * 4)).block, (ad4.add (k * 4)).off + 1, none⟩ = some (.int .i64 y.f0.f1) ∧ W.cell? ⟨(ad4.add (k * 4)).block, (ad4.add (k * 4)).off + 2, none⟩ = some (.int .i64 y.f0.f2)) (first | exact HQ.out.s7 HY.out | exact HQ.out.drew.s7 HY.out | exact (HQ.out.drewN _).s7 HY.out | go_keep) (first | (go_at_call 31; refine (hls _).mono ?_; rintro e w5 ⟨rfl, hb5⟩; have HJ := Aside0.mk ((show Lq w _ gv rb xb x (.slice (some ad4) L.length cp4) dv pv (.slice A9 N.length cp9) L D P N from (by first | exact HQ.out | exact HQ.out.drew | exact HQ.out.drewN _)).step hb5); clear HQ; have HQ := HJ; clear HJ hb5))
                    clear s0 s1 s2 s3 s4 s5 s6 s7 s8
                    obtain ⟨s0, s1, s2, s3, s4, s5, s6, s7, s8⟩ := (by first | exact HQ.out.cells HY.out | exact HQ.out.drew.cells HY.out | exact (HQ.out.drewN _).cells HY.out : Lcells _ gv xb x ad4 L.length cp4 k y)
                    cases q with
                    | true =>
                      go_upto_region 18 with ((at_builtin; refine wpList_append_lies _ rfl (.tmp 63) (.tmp 69) 33 rfl w.heap.size 43 i0 _ 4 32 Try.underlying33 hi0 hz0 hz1 hz2 rfl (by decide) _ (N).length ((N).flatMap cells43) rfl ?own ⟨_, 0, none⟩ 1 1 (cells43 ⟨x.f1, x.f2⟩) rfl rfl (World.news_of_block (blk_new _ (.cells #[(.int .i64 x.f1.f0), (.int .i64 x.f1.f1), (.int .i64 x.f1.f2), (.int .i64 x.f2)] 43))) (one43 x.f1 x.f2) (by decide) (by unfold maxLen; (try rw [List.length_append, List.length_singleton]); omega) (by (try rw [List.length_append, List.length_singleton]); omega) (by have := HQ.out.s.below.size; simp; omega) _ rfl ?_; (case own => first | exact HQ.out.n.row.alloc _ | exact HQ.out.drew.n.row.alloc _ | exact HQ.out.drew.drew.n.row.alloc _ | exact (HQ.out.drewN _).n.row.alloc _); intro g1 cap1 w11 hown hgrow hat hltg; have HQ1 : Aside0 (Lq w w11 gv rb xb x (.slice (some ad4) L.length cp4) dv pv (.slice (some ⟨g1, 0, none⟩) ((N).length + 1) cap1) L D P ((N) ++ [(⟨x.f1, x.f2⟩ : S43)])) := ⟨by first | exact HQ.out.append (y := ⟨x.f1, x.f2⟩) hown hgrow hat | exact HQ.out.drew.append (y := ⟨x.f1, x.f2⟩) hown hgrow hat | exact HQ.out.drew.drew.append (y := ⟨x.f1, x.f2⟩) hown hgrow hat | exact (HQ.out.drewN _).append (y := ⟨x.f1, x.f2⟩) hown hgrow hat⟩; clear hown hgrow hat hltg; (try clear s0 s1 s2 s3 s4 s5 s6 s7 s8); obtain ⟨s0, s1, s2, s3, s4, s5, s6, s7, s8⟩ := HQ1.out.cells HY.out))
                      go_region
                      go_wp2_with ((at_builtin; refine wpList_append_lies _ rfl (.tmp 80) (.tmp 86) 33 rfl w.heap.size 43 i0 _ 4 32 Try.underlying33 hi0 hz0 hz1 hz2 rfl (by decide) _ (N ++ [(⟨x.f1, x.f2⟩ : S43)]).length ((N ++ [(⟨x.f1, x.f2⟩ : S43)]).flatMap cells43) rfl ?own ⟨_, 0, none⟩ 1 1 (cells43 ⟨x.f1, x.f2⟩) rfl rfl (World.news_of_block (blk_new _ (.cells #[(.int .i64 x.f1.f0), (.int .i64 x.f1.f1), (.int .i64 x.f1.f2), (.int .i64 x.f2)] 43))) (one43 x.f1 x.f2) (by decide) (by unfold maxLen; (try rw [List.length_append, List.length_singleton]); omega) (by (try rw [List.length_append, List.length_singleton]); omega) (by have := HQ1.out.s.below.size; simp; omega) _ rfl ?_; (case own => first | exact HQ1.out.n.row.alloc _ | exact HQ1.out.drew.n.row.alloc _ | exact HQ1.out.drew.drew.n.row.alloc _ | exact (HQ1.out.drewN _).n.row.alloc _); intro g2 cap2 w12 hown hgrow hat hltg; have HQ2 : Aside0 (Lq w w12 gv rb xb x (.slice (some ad4) L.length cp4) dv pv (.slice (some ⟨g2, 0, none⟩) ((N ++ [(⟨x.f1, x.f2⟩ : S43)]).length + 1) cap2) L D P ((N ++ [(⟨x.f1, x.f2⟩ : S43)]) ++ [(⟨x.f1, x.f2⟩ : S43)])) := ⟨by first | exact HQ1.out.append (y := ⟨x.f1, x.f2⟩) hown hgrow hat | exact HQ1.out.drew.append (y := ⟨x.f1, x.f2⟩) hown hgrow hat | exact HQ1.out.drew.drew.append (y := ⟨x.f1, x.f2⟩) hown hgrow hat | exact (HQ1.out.drewN _).append (y := ⟨x.f1, x.f2⟩) hown hgrow hat⟩; clear hown hgrow hat hltg; (try clear s0 s1 s2 s3 s4 s5 s6 s7 s8); obtain ⟨s0, s1, s2, s3, s4, s5, s6, s7, s8⟩ := HQ2.out.cells HY.out))
                      go_roundg gk
                      case measure => omega
                      case rel => exact ⟨k + 1, (N ++ [(⟨x.f1, x.f2⟩ : S43)]) ++ [(⟨x.f1, x.f2⟩ : S43)], true, by omega, rfl, by simp, ⟨by rw [HST.out]; simp [stepL, hlt0, hq0]⟩, ⟨by simp; omega⟩, ⟨by have h9 := HQ2.out; rw [show (N ++ [(⟨x.f1, x.f2⟩ : S43)]).length = N.length + 1 by simp] at h9; exact h9⟩⟩
                    | false =>
                      go_upto_region 18 with ((at_builtin; refine wpList_append_lies _ rfl (.tmp 63) (.tmp 69) 33 rfl w.heap.size 43 i0 _ 4 32 Try.underlying33 hi0 hz0 hz1 hz2 rfl (by decide) _ (N).length ((N).flatMap cells43) rfl ?own ⟨_, 0, none⟩ 1 1 (cells43 ⟨x.f1, x.f2⟩) rfl rfl (World.news_of_block (blk_new _ (.cells #[(.int .i64 x.f1.f0), (.int .i64 x.f1.f1), (.int .i64 x.f1.f2), (.int .i64 x.f2)] 43))) (one43 x.f1 x.f2) (by decide) (by unfold maxLen; (try rw [List.length_append, List.length_singleton]); omega) (by (try rw [List.length_append, List.length_singleton]); omega) (by have := HQ.out.s.below.size; simp; omega) _ rfl ?_; (case own => first | exact HQ.out.n.row.alloc _ | exact HQ.out.drew.n.row.alloc _ | exact HQ.out.drew.drew.n.row.alloc _ | exact (HQ.out.drewN _).n.row.alloc _); intro g1 cap1 w11 hown hgrow hat hltg; have HQ1 : Aside0 (Lq w w11 gv rb xb x (.slice (some ad4) L.length cp4) dv pv (.slice (some ⟨g1, 0, none⟩) ((N).length + 1) cap1) L D P ((N) ++ [(⟨x.f1, x.f2⟩ : S43)])) := ⟨by first | exact HQ.out.append (y := ⟨x.f1, x.f2⟩) hown hgrow hat | exact HQ.out.drew.append (y := ⟨x.f1, x.f2⟩) hown hgrow hat | exact HQ.out.drew.drew.append (y := ⟨x.f1, x.f2⟩) hown hgrow hat | exact (HQ.out.drewN _).append (y := ⟨x.f1, x.f2⟩) hown hgrow hat⟩; clear hown hgrow hat hltg; (try clear s0 s1 s2 s3 s4 s5 s6 s7 s8); obtain ⟨s0, s1, s2, s3, s4, s5, s6, s7, s8⟩ := HQ1.out.cells HY.out))
                      go_region
                      go_wp2_with ((at_builtin; refine wpList_append_lies _ rfl (.tmp 88) (.tmp 94) 33 rfl w.heap.size 43 i0 _ 4 32 Try.underlying33 hi0 hz0 hz1 hz2 rfl (by decide) _ (N ++ [(⟨x.f1, x.f2⟩ : S43)]).length ((N ++ [(⟨x.f1, x.f2⟩ : S43)]).flatMap cells43) rfl ?own ⟨_, 0, none⟩ 1 1 (cells43 y) rfl rfl (World.news_of_block (blk_new _ (.cells #[(.int .i64 y.f0.f0), (.int .i64 y.f0.f1), (.int .i64 y.f0.f2), (.int .i64 y.f1)] 43))) (one43 y.f0 y.f1) (by decide) (by unfold maxLen; (try rw [List.length_append, List.length_singleton]); omega) (by (try rw [List.length_append, List.length_singleton]); omega) (by have := HQ1.out.s.below.size; simp; omega) _ rfl ?_; (case own => first | exact HQ1.out.n.row.alloc _ | exact HQ1.out.drew.n.row.alloc _ | exact HQ1.out.drew.drew.n.row.alloc _ | exact (HQ1.out.drewN _).n.row.alloc _); intro g2 cap2 w12 hown hgrow hat hltg; have HQ2 : Aside0 (Lq w w12 gv rb xb x (.slice (some ad4) L.length cp4) dv pv (.slice (some ⟨g2, 0, none⟩) ((N ++ [(⟨x.f1, x.f2⟩ : S43)]).length + 1) cap2) L D P ((N ++ [(⟨x.f1, x.f2⟩ : S43)]) ++ [(y : S43)])) := ⟨by first | exact HQ1.out.append (y := y) hown hgrow hat | exact HQ1.out.drew.append (y := y) hown hgrow hat | exact HQ1.out.drew.drew.append (y := y) hown hgrow hat | exact (HQ1.out.drewN _).append (y := y) hown hgrow hat⟩; clear hown hgrow hat hltg; (try clear s0 s1 s2 s3 s4 s5 s6 s7 s8); obtain ⟨s0, s1, s2, s3, s4, s5, s6, s7, s8⟩ := HQ2.out.cells HY.out))
                      go_roundg gk
                      case measure => omega
                      case rel => exact ⟨k + 1, (N ++ [(⟨x.f1, x.f2⟩ : S43)]) ++ [(y : S43)], true, by omega, rfl, by simp, ⟨by rw [HST.out]; simp [stepL, hlt0, hq0]⟩, ⟨by simp; omega⟩, ⟨by have h9 := HQ2.out; rw [show (N ++ [(⟨x.f1, x.f2⟩ : S43)]).length = N.length + 1 by simp] at h9; exact h9⟩⟩
                  | false =>
                    go_upto_region 15 with fail
                    go_region_held3 (fun W => W.cell? ⟨gv, 0, none⟩ = some (.slice (some ad4) L.length cp4) ∧ W.cell? ⟨xb, 1, none⟩ = some (.int .i64 x.f1.f0) ∧ W.cell? ⟨xb, 2, none⟩ = some (.int .i64 x.f1.f1) ∧ W.cell? ⟨xb, 3, none⟩ = some (.int .i64 x.f1.f2) ∧ W.cell? (ad4.add (k * 4)) = some (.int .i64 y.f0.f0) ∧ W.cell? ⟨(ad4.add (k * 4)).block, (ad4.add (k * 4)).off + 1, none⟩ = some (.int .i64 y.f0.f1) ∧ W.cell? ⟨(ad4.add (k * 4)).block, (ad4.add (k * 4)).off + 2, none⟩ = some (.int .i64 y.f0.f2)) (first | exact HQ.out.s7 HY.out | exact HQ.out.drew.s7 HY.out | exact (HQ.out.drewN _).s7 HY.out | go_keep) (first | (go_at_call 31; refine (hls _).mono ?_; rintro e w5 ⟨rfl, hb5⟩; have HJ := Aside0.mk ((show Lq w _ gv rb xb x (.slice (some ad4) L.length cp4) dv pv (.slice A9 N.length cp9) L D P N from (by first | exact HQ.out | exact HQ.out.drew | exact HQ.out.drewN _)).step hb5); clear HQ; have HQ := HJ; clear HJ hb5))
                    clear s0 s1 s2 s3 s4 s5 s6 s7 s8
                    obtain ⟨s0, s1, s2, s3, s4, s5, s6, s7, s8⟩ := (by first | exact HQ.out.cells HY.out | exact HQ.out.drew.cells HY.out | exact (HQ.out.drewN _).cells HY.out : Lcells _ gv xb x ad4 L.length cp4 k y)
                    cases q with
                    | true =>
                      go_upto_region 18 with fail
                      go_region
                      go_wp2_with ((at_builtin; refine wpList_append_lies _ rfl (.tmp 80) (.tmp 86) 33 rfl w.heap.size 43 i0 _ 4 32 Try.underlying33 hi0 hz0 hz1 hz2 rfl (by decide) _ (N).length ((N).flatMap cells43) rfl ?own ⟨_, 0, none⟩ 1 1 (cells43 ⟨x.f1, x.f2⟩) rfl rfl (World.news_of_block (blk_new _ (.cells #[(.int .i64 x.f1.f0), (.int .i64 x.f1.f1), (.int .i64 x.f1.f2), (.int .i64 x.f2)] 43))) (one43 x.f1 x.f2) (by decide) (by unfold maxLen; (try rw [List.length_append, List.length_singleton]); omega) (by (try rw [List.length_append, List.length_singleton]); omega) (by have := HQ.out.s.below.size; simp; omega) _ rfl ?_; (case own => first | exact HQ.out.n.row.alloc _ | exact HQ.out.drew.n.row.alloc _ | exact HQ.out.drew.drew.n.row.alloc _ | exact (HQ.out.drewN _).n.row.alloc _); intro g1 cap1 w11 hown hgrow hat hltg; have HQ1 : Aside0 (Lq w w11 gv rb xb x (.slice (some ad4) L.length cp4) dv pv (.slice (some ⟨g1, 0, none⟩) ((N).length + 1) cap1) L D P ((N) ++ [(⟨x.f1, x.f2⟩ : S43)])) := ⟨by first | exact HQ.out.append (y := ⟨x.f1, x.f2⟩) hown hgrow hat | exact HQ.out.drew.append (y := ⟨x.f1, x.f2⟩) hown hgrow hat | exact HQ.out.drew.drew.append (y := ⟨x.f1, x.f2⟩) hown hgrow hat | exact (HQ.out.drewN _).append (y := ⟨x.f1, x.f2⟩) hown hgrow hat⟩; clear hown hgrow hat hltg; (try clear s0 s1 s2 s3 s4 s5 s6 s7 s8); obtain ⟨s0, s1, s2, s3, s4, s5, s6, s7, s8⟩ := HQ1.out.cells HY.out))
                      go_roundg gk
                      case measure => omega
                      case rel => exact ⟨k + 1, (N) ++ [(⟨x.f1, x.f2⟩ : S43)], true, by omega, rfl, by simp, ⟨by rw [HST.out]; simp [stepL, hlt0, hq0]⟩, ⟨by simp; omega⟩, HQ1⟩
                    | false =>
                      go_upto_region 18 with fail
                      go_region
                      go_wp2_with ((at_builtin; refine wpList_append_lies _ rfl (.tmp 88) (.tmp 94) 33 rfl w.heap.size 43 i0 _ 4 32 Try.underlying33 hi0 hz0 hz1 hz2 rfl (by decide) _ (N).length ((N).flatMap cells43) rfl ?own ⟨_, 0, none⟩ 1 1 (cells43 y) rfl rfl (World.news_of_block (blk_new _ (.cells #[(.int .i64 y.f0.f0), (.int .i64 y.f0.f1), (.int .i64 y.f0.f2), (.int .i64 y.f1)] 43))) (one43 y.f0 y.f1) (by decide) (by unfold maxLen; (try rw [List.length_append, List.length_singleton]); omega) (by (try rw [List.length_append, List.length_singleton]); omega) (by have := HQ.out.s.below.size; simp; omega) _ rfl ?_; (case own => first | exact HQ.out.n.row.alloc _ | exact HQ.out.drew.n.row.alloc _ | exact HQ.out.drew.drew.n.row.alloc _ | exact (HQ.out.drewN _).n.row.alloc _); intro g1 cap1 w11 hown hgrow hat hltg; have HQ1 : Aside0 (Lq w w11 gv rb xb x (.slice (some ad4) L.length cp4) dv pv (.slice (some ⟨g1, 0, none⟩) ((N).length + 1) cap1) L D P ((N) ++ [(y : S43)])) := ⟨by first | exact HQ.out.append (y := y) hown hgrow hat | exact HQ.out.drew.append (y := y) hown hgrow hat | exact HQ.out.drew.drew.append (y := y) hown hgrow hat | exact (HQ.out.drewN _).append (y := y) hown hgrow hat⟩; clear hown hgrow hat hltg; (try clear s0 s1 s2 s3 s4 s5 s6 s7 s8); obtain ⟨s0, s1, s2, s3, s4, s5, s6, s7, s8⟩ := HQ1.out.cells HY.out))
                      go_roundg gk
                      case measure => omega
                      case rel => exact ⟨k + 1, (N) ++ [(y : S43)], false, by omega, rfl, by simp, ⟨by rw [HST.out]; simp [stepL, hlt0, hq0]⟩, ⟨by simp; omega⟩, HQ1⟩
        case rest =>
          obtain ⟨lv', HS9, HB9⟩ := hcut
          clear HS8 BX8 HVL HRL
          rename_i za1_ za2_ za3_ za4_ za5_ za6_ za7_ za8_ za9_ za10_ za11_ za12_ za13_ za14_ za15_ za16_ za17_ za18_ za19_ za20_ za21_ za22_ za23_ za24_ za25_ za26_ za27_ za28_ za29_ za30_ za31_ za32_ za33_ za34_ za35_ za36_ za37_ za38_ za39_ za40_ za41_ za42_ za43_ za44_ za45_ za46_ za47_ za48_ za49_ za50_ za51_ za52_ za53_ za54_ za55_ za56_ za57_ za58_ za59_ za60_ za61_ za62_ za63_ za64_ za65_ za66_ za67_ za68_ za69_ za70_ za71_ za72_ za73_ za74_ za75_ za76_ za77_ za78_ za79_ za80_ za81_ za82_ za83_ za84_ za85_ za86_ za87_ za88_ za89_ za90_ za91_ za92_ za93_ za94_ za95_ za96_ za97_ za98_ za99_ za100_ za101_ za102_ za103_ za104_ za105_ za106_ za107_ za108_ za109_ za110_ za111_ za112_ za113_ za114_ za115_ za116_ za117_ za118_ za119_ za120_ za121_ za122_ za123_ za124_ za125_ za126_ za127_ za128_ za129_ za130_ za131_ za132_ za133_ za134_ za135_ za136_ za137_ za138_ za139_ za140_ za141_ za142_ za143_ za144_ za145_ za146_ za147_ za148_ za149_ za150_ za151_ za152_ za153_ za154_ za155_ za156_ za157_ za158_ za159_ za160_ za161_ za162_ za163_ za164_ za165_ za166_ za167_ za168_ za169_ za170_ za171_ za172_ za173_ za174_ za175_ za176_ za177_ za178_ za179_ za180_ za181_ za182_ za183_ za184_ za185_ za186_ za187_ za188_ za189_ za190_ za191_ za192_ za193_ za194_
          revert c0 l0 a1 w hc0 hlen HBD HLEN hu37 hu31 hu24 hu43 hu45 za1_ rb w1 gv w2 w3 za2_ za3_ wr u7 za4_ za5_ za6_ u11 u12 u13 u14 u15 za7_ za8_ za9_ za10_ za11_ za12_ za13_ za14_ za15_ za16_ za17_ za18_ za19_ za20_ za21_ za22_ za23_ za24_ za25_ za26_ za27_ za28_ za29_ za30_ za31_ za32_ za33_ za34_ za35_ za36_ za37_ za38_ za39_ za40_ za41_ za42_ za43_ za44_ za45_ za46_ za47_ za48_ za49_ za50_ za51_ za52_ za53_ za54_ za55_ za56_ za57_ za58_ za59_ za60_ za61_ za62_ za63_ za64_ za65_ za66_ za67_ za68_ za69_ za70_ za71_ za72_ za73_ za74_ za75_ za76_ za77_ za78_ za79_ za80_ za81_ za82_ za83_ za84_ za85_ za86_ za87_ za88_ za89_ za90_ za91_ za92_ za93_ za94_ za95_ za96_ za97_ za98_ za99_ za100_ za101_ za102_ za103_ za104_ za105_ za106_ za107_ za108_ za109_ za110_ za111_ za112_ za113_ za114_ za115_ za116_ za117_ za118_ za119_ za120_ za121_ za122_ za123_ za124_ za125_ za126_ za127_ za128_ za129_ za130_ za131_ za132_ za133_ za134_ za135_ za136_ za137_ za138_ za139_ za140_ za141_ za142_ za143_ za144_ za145_ za146_ za147_ za148_ za149_ za150_ za151_ za152_ za153_ za154_ za155_ za156_ za157_ za158_ za159_ za160_ za161_ za162_ za163_ za164_ za165_ za166_ za167_ za168_ za169_ za170_ za171_ za172_ za173_ za174_ za175_ za176_ za177_ za178_ za179_ za180_ za181_ za182_ za183_ za184_ za185_ za186_ za187_ za188_ i lv dv pv gko za189_ hi x hlt ad HR za190_ HX HG L' D' P' HL1 HD1 HP1 L D P HVD HVP HLN HRP za191_ za192_ xb w5 hgs w6 w7 za193_ za194_ w8 wc u8 u9 u10 u24 u25 u26 u27 u28 u29 u30 u31 u32 u33 u34 u35 u36 u37 u38 u39 u40 u41 u42 u43 u44 u45 u46 u47 u48 u49 u50 u51 u52 u53 u54 u55 u56 u57 u58 u59 u60 u61 u62 u63 u64 u65 u66 u67 u68 u69 u70 u71 u72 u73 u74 u75 u76 u77 u78 u79 u80 u81 u82 u83 u84 u85 u86 u87 u88 u89 u90 u91 u92 u93 u94 u95 u96 u97 u98 u99 u100 u101 u102 u103 u104 u105 u106 u107 u108 u109 u110 u111 u112 u113 u114 u115 u116 u117 u118 u119 u120 u121 u122 u123 u124 u125 u126 u127 u128 u129 u130 u131 u132 u133 u134 u135 u136 u137 u138 u139 u140 u141 u142 u143 u144 u145 u146 u147 u148 u149 u150 u151 u152 u153 u154 u155 u156 u157 u158 u159 u160 u161 u162 u163 u164 u165 u166 u167 u168 u169 u170 u171 u172 u173 u174 u175 u176 u177 u178 u179 u180 u181 u182 u183 u184 u185 u186 u187 u188 u189 u190 u191 u192 u193 u194 u195 u196 u197 u198 u199 u200 u201 u202 u203 lv' HS9 HB9
          exact rest_.out
end Go.Proofs.Ytianblmceohmnaa.Hand
