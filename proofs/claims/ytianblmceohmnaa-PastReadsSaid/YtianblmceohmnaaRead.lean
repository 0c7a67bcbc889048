/- past.Read. -/
import Derived.Test.YtianblmceohmnaaState
import Derived.Test.YtianblmceohmnaaGoodInv
import Derived.Deep.LoopGhost
import Derived.StillTailTactics
import Derived.Deep.RegionLaw
import Derived.Deep.DeepCutAuto
import Derived.Deep.CutBlock
import Derived.Deep.CutRange
import Derived.Outline
namespace Go.Proofs.Ytianblmceohmnaa.Hand
open Go.RowKit Go.Maps Go.Proofs.Ytianblmceohmnaa.PAll Go.Proofs.YtianblmceohmnaaW.PrintWords Go.Proofs.MapF
set_option linter.unusedVariables false
set_option linter.unusedSimpArgs false
set_option maxRecDepth 100000

/-- What Read's maps tell: the losers by name, the pages by number. -/
def IsView (la pg : Lit → Option Value) (ss : List S24) (ps : List Int) : Prop := (KeysF la ss ∧ ss.Pairwise Lt24) ∧ KeysZ pg ps ∧ ps.Pairwise (· < ·)
theorem zero3 (w : World) : (zeroValue 3).run Try.prog w = .ok (.int .i64 0) w := by kernel_rfl
def intV (v : Option Value) : Int := match v with | some (.int _ n) => n | _ => 0
noncomputable def losersF (la : Lit → Option Value) (ss : List S24) : List S43 := ss.map fun t => ⟨t, intV (la (KL t))⟩
def pagesF (pg : Lit → Option Value) (ps : List Int) : List S45 := ps.map fun p => ⟨p, intV (pg (.int .i64 p))⟩

theorem results_c {P : Program} {fn : Func} {p : Tmp} {ty : TypeId} (h : fn.results = #[.cell p ty]) (tmps : Array Value) (w : World) (g : Nat) (t : TypeId) (cs : Array Value) (fr : Nat × Nat) (d : TypeDesc)
    (hp : tmps.getD p undef = .pointer (some ⟨g, 0, none⟩)) (hg : w.heap[g]? = some (.cells cs t fr))
    (hu : P.underlying ty = some d) (hd : (match d with | .struct _ | .array _ _ => true | _ => false) = true) (hi : (P.info? ty).map (·.size) = some cs.size) :
    (results fn tmps).run P w = .ok (.agg cs) w := by
  have hp' : tmps[p]?.getD undef = .pointer (some ⟨g, 0, none⟩) := by simpa using hp
  simp [results, h, hp', asAddr, run_loadVar_row w g t ty cs fr d hg hu hd hi]
theorem info43 : (Try.prog.info? 43).map (fun i => (i.zero, i.size, i.bytes)) = some (some (.agg #[.int .i64 0, .int .i64 0, .int .i64 0, .int .i64 0]), 4, 32) := by kernel_rfl
theorem info45 : (Try.prog.info? 45).map (fun i => (i.zero, i.size, i.bytes)) = some (some (.agg #[.int .i64 0, .int .i64 0]), 2, 16) := by kernel_rfl
theorem size37 : (Try.prog.info? 37).map (·.size) = some 3 := by kernel_rfl
theorem oneS (a b c : Value) (h1 : ∃ A n m, a = .slice A n m) (h2 : ∃ A n m, b = .slice A n m) (h3 : ∃ A n m, c = .slice A n m) : ∀ q ∈ (#[a, b, c] : Array Value).toList, q.oneCell' = true := by
  obtain ⟨_, _, _, rfl⟩ := h1
  obtain ⟨_, _, _, rfl⟩ := h2
  obtain ⟨_, _, _, rfl⟩ := h3
  intro q hq
  simp at hq
  rcases hq with rfl | rfl | rfl <;> rfl

set_option maxHeartbeats 8000000 in
set_option maxRecDepth 100000 in
theorem read_none (A0 : Option Addr) (c0 : Nat) (l0 : List S31) (a1 : Int) (w : World) (hf : isFirst a1 = false) :
    Calls Try.prog 13 #[.slice A0 l0.length c0, .int .i64 a1] w fun e w' => e = .returned (.agg #[.slice none 0 0, .slice none 0 0, .slice none 0 0]) ∧ Below w.heap.size w w' := by
  have hif := isFirst_calls a1
  rw [hf] at hif
  have hu37 := Try.underlying37
  go_enter Try.func13, Try.ntmps13
  go_wp2_with (first
    | ((with_reducible refine gate_dst (N := 4) rfl ?_); refine box_event ?hg (N := 4) ?hd (cs := nils) (t := 37) ?hr ?_; (case hd => rfl); (case hg => rfl); (case hr => first | (go_simp; done) | (go_simp; rfl)); intro gb hg w1 hbox hb; have HB1 := Aside0.mk hb; have hgs := Aside0.mk hg; have h0 : w1.cell? ⟨gb, 0, none⟩ = some (.slice none 0 0) := (blk_cell hbox 0).trans rfl; have h1 : w1.cell? ⟨gb, 1, none⟩ = some (.slice none 0 0) := (blk_cell hbox 1).trans rfl; have h2 : w1.cell? ⟨gb, 2, none⟩ = some (.slice none 0 0) := (blk_cell hbox 2).trans rfl; have BX := Aside0.mk hbox; clear hb hg hbox)
    | (go_at_call 21; refine (hif _).mono ?_; rintro e w2 ⟨rfl, hb2⟩; have HB2 := Aside0.mk (below_step HB1.out hb2); have BX2 := Aside0.mk (blk_below BX.out hb2); clear HB1 BX h0 h1 h2 hb2; have h0 : w2.cell? ⟨gb, 0, none⟩ = some (.slice none 0 0) := (blk_cell BX2.out 0).trans rfl; have h1 : w2.cell? ⟨gb, 1, none⟩ = some (.slice none 0 0) := (blk_cell BX2.out 1).trans rfl; have h2 : w2.cell? ⟨gb, 2, none⟩ = some (.slice none 0 0) := (blk_cell BX2.out 2).trans rfl; have f0 := blk_frozen BX2.out 0; have f1 := blk_frozen BX2.out 1; have f2 := blk_frozen BX2.out 2)
    | (refine store_box rfl rfl rfl rfl (seg := nils) rfl BX2.out rfl size37 (oneS _ _ _ ⟨_, _, _, rfl⟩ ⟨_, _, _, rfl⟩ ⟨_, _, _, rfl⟩) ?_; intro w4 hbox4 hgr hsz hbel; have HB4 := Aside0.mk (HB2.out.trans (hbel _ (Nat.le_of_eq hgs.out.symm))); have BX4 := Aside0.mk hbox4; clear hbox4 hgr hsz hbel HB2 BX2 h0 h1 h2 f0 f1 f2))
  refine bodyPost_ret (v := .agg nils) (results_c rfl _ _ gb 37 nils (0, 0) _ rfl BX4.out hu37 rfl size37) rfl ⟨rfl, HB4.out⟩

theorem rsAt_last (l : List S31) (a : Int) : ∀ (i : Nat) (kl : Lit) (v : Value), (rsAt l a i).last kl = some v → ∃ n, v = .int .i64 n
  | 0, kl, v, h => by simp [rsAt] at h
  | i + 1, kl, v, h => by
    rw [rsAt] at h
    cases hx : l[i]? with
    | none => rw [hx] at h; exact rsAt_last l a i kl v h
    | some x =>
      rw [hx] at h
      dsimp only at h
      unfold rstep at h
      by_cases hg : good x = true
      · rw [if_pos hg] at h
        dsimp only at h
        split at h
        · exact rsAt_last l a i kl v h
        · by_cases hk : kl = KL x.f1
          · subst hk; rw [upd_same] at h; cases h; exact ⟨_, rfl⟩
          · rw [upd_other _ _ hk] at h; exact rsAt_last l a i kl v h
      · rw [if_neg hg] at h; exact rsAt_last l a i kl v h
theorem rsAt_pages (l : List S31) (a : Int) : ∀ (i : Nat) (kl : Lit) (v : Value), (rsAt l a i).pages kl = some v → ∃ n, v = .int .i64 n
  | 0, kl, v, h => by simp [rsAt] at h
  | i + 1, kl, v, h => by
    rw [rsAt] at h
    cases hx : l[i]? with
    | none => rw [hx] at h; exact rsAt_pages l a i kl v h
    | some x =>
      rw [hx] at h
      dsimp only at h
      unfold rstep at h
      by_cases hg : good x = true
      · rw [if_pos hg] at h
        dsimp only at h
        split at h
        · by_cases hk : kl = .int .i64 x.f4
          · subst hk; rw [upd_same] at h; cases h; exact ⟨_, rfl⟩
          · rw [upd_other _ _ hk] at h; exact rsAt_pages l a i kl v h
        · exact rsAt_pages l a i kl v h
      · rw [if_neg hg] at h; exact rsAt_pages l a i kl v h
theorem page_key {w : World} {b n : Nat} {f : Lit → Option Value} {q : Int} (h : At Try.prog 3 w b n f) (hq : (f (.int .i64 q)).isSome = true) : (Lit.int .i64 q).wf = true := by
  obtain ⟨D, hown, hT⟩ := h
  have := (intKeys_keys hown hT).2 q
  exact intKeys_wf hown Try.underlying3 q (this.2 hq)
theorem losersF_succ {la : Lit → Option Value} {ss : List S24} {j : Nat} {t : S24} (h : ss[j]? = some t) : losersF la (ss.take (j + 1)) = losersF la (ss.take j) ++ [⟨t, intV (la (KL t))⟩] := by
  unfold losersF
  rw [List.take_add_one, h]
  simp
theorem pagesF_succ {pg : Lit → Option Value} {ps : List Int} {j : Nat} {p : Int} (h : ps[j]? = some p) : pagesF pg (ps.take (j + 1)) = pagesF pg (ps.take j) ++ [⟨p, intV (pg (.int .i64 p))⟩] := by
  unfold pagesF
  rw [List.take_add_one, h]
  simp
theorem one43 (t : S24) (m : Int) : ∀ u ∈ cells43 ⟨t, m⟩, u.oneCell' = true := by
  intro u hu
  simp [cells43] at hu
  rcases hu with rfl | rfl | rfl | rfl <;> rfl
theorem int_cell {w : World} {base : Nat} {A : Option Addr} {n c : Nat} {l : List Int} {j : Nat} {p : Int} (h : w.ownsRow base 3 1 (.slice A n c) l.length (l.map (Value.int .i64))) (hp : l[j]? = some p) : ∃ ad, A = some ad ∧ w.cell? (ad.add j) = some (.int .i64 p) := by
  have e : l.map (Value.int .i64) = l.flatMap (fun x => [Value.int .i64 x]) := List.map_eq_flatMap
  rw [e] at h
  obtain ⟨_, _, hr⟩ := own_reads (d := Kd.int .i64) (enc := fun x => [Value.int .i64 x]) (fun _ _ => rfl) (fun _ => rfl) h
  have hj := (List.getElem?_eq_some_iff.1 hp).1
  obtain ⟨ad, e, hc⟩ := hr.2.2 (by omega)
  obtain ⟨cs, _, hk, hcell⟩ := hc j p hp
  obtain rfl : cs = [.int .i64 p] := hk
  refine ⟨ad, e, ?_⟩
  have := hcell 0 _ rfl
  have h1 : (Kd.int .i64).sz = 1 := rfl
  rw [h1] at this
  simpa using this
theorem one45 (p m : Int) : ∀ u ∈ cells45 ⟨p, m⟩, u.oneCell' = true := by
  intro u hu
  simp [cells45] at hu
  rcases hu with rfl | rfl <;> rfl
theorem one24 (x : S24) : ∀ q ∈ (#[Value.int .i64 x.f0, .int .i64 x.f1, .int .i64 x.f2] : Array Value).toList, q.oneCell' = true := cells24_one x

set_option maxHeartbeats 8000000 in
set_option maxRecDepth 100000 in
theorem read_some (A0 : Option Addr) (c0 : Nat) (l0 : List S31) (a1 : Int) (w : World) (hf : isFirst a1 = true) (hr0 : Kd.C k31 w A0 l0.length l0) (hc0 : l0.length ≤ c0) (hlen : l0.length ≤ 400) :
    Calls Try.prog 13 #[.slice A0 l0.length c0, .int .i64 a1] w fun e w' => ∃ (v0 v1 v2 : Value) (ss : List S24) (ps : List Int), e = .returned (.agg #[v0, v1, v2]) ∧ IsView (rsAt l0 a1 l0.length).last (rsAt l0 a1 l0.length).pages ss ps ∧
      w'.ownsRow w.heap.size 43 4 v0 (losersF (rsAt l0 a1 l0.length).last ss).length ((losersF (rsAt l0 a1 l0.length).last ss).flatMap cells43) ∧
      w'.ownsRow w.heap.size 24 3 v1 (rsAt l0 a1 l0.length).done.length (rows24 (rsAt l0 a1 l0.length).done) ∧
      w'.ownsRow w.heap.size 45 2 v2 (pagesF (rsAt l0 a1 l0.length).pages ps).length ((pagesF (rsAt l0 a1 l0.length).pages ps).flatMap cells45) ∧ Below w.heap.size w w' := by
  have hif := isFirst_calls a1
  rw [hf] at hif
  have hb0 : 1 ≤ a1 ∧ a1 ≤ 1099511627776 := by simpa [isFirst] using hf
  obtain ⟨hb0, hb0'⟩ := hb0
  have HR := Aside0.mk hr0
  have hen := fun W (h : Kd.C k31 W A0 l0.length l0) => ended_calls A0 c0 l0 W h hc0 (by omega)
  have hmm := @run_makeMap Try.prog
  have hu37 := Try.underlying37
  have hu31 := Try.underlying31
  have hu24 := Try.underlying24
  clear hr0 hf
  go_enter Try.func13, Try.ntmps13
  go_wp2_with (first
    | ((with_reducible refine gate_dst (N := 4) rfl ?_); refine box_event ?hg (N := 4) ?hd (cs := nils) (t := 37) ?hr ?_; (case hd => rfl); (case hg => rfl); (case hr => first | (go_simp; done) | (go_simp; rfl)); intro rb hg w1 hbox hb; have HB1 := Aside0.mk hb; have hgr := Aside0.mk (Nat.le_of_eq hg.symm); have RX := Aside0.mk hbox; clear hb hg hbox)
    | (go_at_call 21; refine (hif _).mono ?_; rintro e w2 ⟨rfl, hb2⟩; have HB2 := Aside0.mk (below_step HB1.out hb2); have RX2 := Aside0.mk (blk_below RX.out hb2); clear HB1 RX hb2)
    | (go_at_call 22; refine (hen _ (Kd.C_below HR.out HB2.out)).mono ?_; rintro e w3 ⟨eb, rfl, hbl, hM, hb3⟩; have HB3 := Aside0.mk (below_step HB2.out hb3); have RX3 := Aside0.mk (blk_below RX2.out hb3); have HM3 := Aside0.mk hM; have hge := Aside0.mk (Nat.le_trans (below_size HB2.out) hbl); clear hbl hM hb3 HB2 RX2)
    | ((with_reducible refine gate_dst (N := 8) rfl ?_); refine box_event ?hg (N := 8) ?hd (cs := nils) (t := 37) ?hr ?_; (case hd => rfl); (case hg => rfl); (case hr => first | (go_simp; done) | (go_simp; rfl)); intro gv hg w4 hbox hb; have HGV := Aside0.mk hg; clear hg))
  have hs0 : RdAt w w4 l0 eb w3.heap.size (w3.heap.size + 1) gv rb (2 * 0) (rsAt l0 a1 0).last (rsAt l0 a1 0).done (rsAt l0 a1 0).pages (.slice none 0 0) := by
    have l1 := HM3.out.lt
    have l2 := blk_lt RX3.out
    have b1 : Below w.heap.size w ((w3.alloc (.map #[] 0)).alloc (.map #[] 0)) := below_alloc (below_alloc HB3.out _) _
    have a1' : At Try.prog 3 ((w3.alloc (.map #[] 0)).alloc (.map #[] 0)) (w3.heap.size + 1) 0 (fun _ => none) := by
      have := At.made Try.prog 3 (w3.alloc (.map #[] 0))
      rw [World.size_alloc] at this
      exact this
    have hgv : gv = w3.heap.size + 2 := by rw [HGV.out]; simp
    exact ⟨below_step b1 hb, ((HM3.out.alloc _).alloc _).below hb, ((At.made Try.prog 24 w3).alloc _).below hb, a1'.below hb, hbox, blk_below (blk_alloc (blk_alloc RX3.out _) _) hb, own_nil _ _ _ _,
      by omega, by omega, by omega, by omega, ⟨hge.out, by have := below_size HB3.out; omega, by have := below_size HB3.out; omega, by have := below_size HB3.out; omega, hgr.out⟩⟩
  have HS0 := Aside0.mk hs0
  clear hs0 HGV hb hbox HM3 RX3 HB3 hif hen hmm
  generalize w3.heap.size + 1 = pb at *
  generalize w3.heap.size = lb at *
  go_loopg [27] (l0.length) (fun kq iv wr => ∃ (i : Nat) (dv : Value), i + kq = l0.length ∧ iv = .int .i64 i ∧ Aside0 (RdAt w wr l0 eb lb pb gv rb (2 * i) (rsAt l0 a1 i).last (rsAt l0 a1 i).done (rsAt l0 a1 i).pages dv))
  case atStart => exact ⟨0, _, by omega, rfl, HS0⟩
  case round =>
    clear HS0
    obtain ⟨i, dv, hi, rfl, HS⟩ := hrel
    cases gk with
    | zero =>
      obtain rfl : i = l0.length := by omega
      go_wp2_with fail
      clear hi HR hc0
      have hk26 := keys26 (some lb)
      have hc0 : (wr.alloc (.cells #[.map (some lb)] 55)).cell? ⟨wr.heap.size, 0, none⟩ = some (.map (some lb)) := (blk_cell (blk_new wr _) 0).trans rfl
      have hs25 := sorted25 wr.heap.size lb (2 * l0.length) (rsAt l0 a1 l0.length).last (wr.alloc (.cells #[.map (some lb)] 55)) (by simp) hc0 (HS.out.la.alloc _) (by omega)
      refine (hk26 wr).mono ?_
      rintro e w' ⟨rfl, rfl⟩
      go_wp2_with (go_at_call 25; refine hs25.mono ?_; rintro e w13 ⟨sv, ss, rfl, hKF, hPW, hrow, hb⟩; obtain ⟨A3, cp3, rfl⟩ := slice_of hrow; have HKF := Aside0.mk hKF; have HPW := Aside0.mk hPW; have HN := Aside0.mk hrow; have HB13 := Aside0.mk (HS.out.toB.step (below_step (below_alloc (Below.refl _ wr) _) hb)); clear hKF hPW hrow hb hk26 hc0 hs25 HS)
      obtain ⟨nb, hnb⟩ : ∃ nb, nb = (wr.alloc (.cells #[.map (some lb)] 55)).heap.size := ⟨_, rfl⟩
      rw [← hnb] at HN
      clear hnb
      have hsl : ss.length ≤ 800 := Nat.le_trans HKF.out.2 (by omega)
      generalize hdn : (rsAt l0 a1 l0.length).done = dn at *
      have hlaI := rsAt_last l0 a1 l0.length
      have hpgI := rsAt_pages l0 a1 l0.length
      generalize hlae : (rsAt l0 a1 l0.length).last = la at *
      generalize hpge : (rsAt l0 a1 l0.length).pages = pg at *
      have HDN := Aside0.mk hdn
      have HLA := Aside0.mk hlae
      have HPGE := Aside0.mk hpge
      clear hdn hlae hpge
      have HB14 : Aside0 (RdB w w13 lb pb gv rb (2 * l0.length) la pg (.slice none 0 0) dv (.slice none 0 0) (losersF la (ss.take 0)) dn []) := HB13
      clear HB13
      go_loopg [88] (ss.length) (fun kq jv wr => ∃ (j : Nat) (lv : Value), j + kq = ss.length ∧ jv = .int .i64 j ∧ Aside0 (RdB w wr lb pb gv rb (2 * l0.length) la pg lv dv (.slice none 0 0) (losersF la (ss.take j)) dn []) ∧ Aside0 (wr.ownsRow nb 24 3 (.slice A3 ss.length cp3) ss.length (rows24 ss)))
      case atStart => exact ⟨0, _, by omega, rfl, HB14, HN⟩
      case round =>
        clear HB14 HN
        obtain ⟨j, lv, hj, rfl, HS, HN⟩ := hrel
        cases gk with
        | zero =>
          obtain rfl : j = ss.length := by omega
          rw [List.take_length] at HS
          clear hj HN
          have hk29 := keys29 (some pb)
          have hc0 : (wr.alloc (.cells #[.map (some pb)] 56)).cell? ⟨wr.heap.size, 0, none⟩ = some (.map (some pb)) := (blk_cell (blk_new wr _) 0).trans rfl
          have hs28 := sorted28 wr.heap.size pb (2 * l0.length) pg (wr.alloc (.cells #[.map (some pb)] 56)) (by simp) hc0 (HS.out.pg.alloc _) (by omega)
          go_wp2_with fail
          refine (hk29 wr).mono ?_
          rintro e w' ⟨rfl, rfl⟩
          go_wp2_with (go_at_call 28; refine hs28.mono ?_; rintro e w17 ⟨pvv, ps, rfl, hKZ, hPZ, hrow, hb⟩; obtain ⟨A5, cp5, rfl⟩ := slice_of hrow; have HKZ := Aside0.mk hKZ; have HPZ := Aside0.mk hPZ; have HI := Aside0.mk hrow; have HB17 := Aside0.mk (HS.out.step (below_step (below_alloc (Below.refl _ wr) _) hb)); clear hKZ hPZ hrow hb hk29 hc0 hs28 HS)
          obtain ⟨nb2, hnb⟩ : ∃ nb, nb = (wr.alloc (.cells #[.map (some pb)] 56)).heap.size := ⟨_, rfl⟩
          rw [← hnb] at HI
          clear hnb
          have hpl : ps.length ≤ 800 := Nat.le_trans HKZ.out.2 (by omega)
          have HB18 : Aside0 (RdB w w17 lb pb gv rb (2 * l0.length) la pg lv dv (.slice none 0 0) (losersF la ss) dn (pagesF pg (ps.take 0))) := HB17
          clear HB17
          go_loopg [107] (ps.length) (fun kq jv wr => ∃ (j : Nat) (pv : Value), j + kq = ps.length ∧ jv = .int .i64 j ∧ Aside0 (RdB w wr lb pb gv rb (2 * l0.length) la pg lv dv pv (losersF la ss) dn (pagesF pg (ps.take j))) ∧ Aside0 (wr.ownsRow nb2 3 1 (.slice A5 ps.length cp5) ps.length (ps.map (Value.int .i64))))
          case atStart => exact ⟨0, _, by omega, rfl, HB18, HI⟩
          case round =>
            clear HB18 HI
            obtain ⟨j, pv, hj, rfl, HS, HI⟩ := hrel
            cases gk with
            | zero =>
              obtain rfl : j = ps.length := by omega
              rw [List.take_length] at HS
              obtain ⟨A6, cp6, e6⟩ := slice_of HS.out.o
              obtain ⟨A7, cp7, e7⟩ := slice_of HS.out.d
              obtain ⟨A8, cp8, e8⟩ := slice_of HS.out.q
              subst e6 e7 e8
              have g0 : wr.cell? ⟨gv, 0, none⟩ = some (.slice A6 (losersF la ss).length cp6) := (blk_cell HS.out.v 0).trans rfl
              have g1 : wr.cell? ⟨gv, 1, none⟩ = some (.slice A7 dn.length cp7) := (blk_cell HS.out.v 1).trans rfl
              have g2 : wr.cell? ⟨gv, 2, none⟩ = some (.slice A8 (pagesF pg ps).length cp8) := (blk_cell HS.out.v 2).trans rfl
              go_wp2_with (refine store_box rfl rfl rfl rfl (seg := #[.slice A6 (losersF la ss).length cp6, .slice A7 dn.length cp7, .slice A8 (pagesF pg ps).length cp8]) rfl HS.out.r rfl size37 (oneS _ _ _ ⟨_, _, _, rfl⟩ ⟨_, _, _, rfl⟩ ⟨_, _, _, rfl⟩) ?_; intro w20 hbox20 hgr20 hsz hbel; have BX20 := Aside0.mk hbox20; have HB20 := Aside0.mk (HS.out.below.trans (hbel _ HS.out.bases.2)); have O20 := Aside0.mk (own_past_view HS.out.o HS.out.r (by decide) hgr20); have D20 := Aside0.mk (own_past_view HS.out.d HS.out.r (by decide) hgr20); have Q20 := Aside0.mk (own_past_view HS.out.q HS.out.r (by decide) hgr20); clear hbox20 hgr20 hsz hbel)
              refine bodyPost_ret (v := .agg #[.slice A6 (losersF la ss).length cp6, .slice A7 dn.length cp7, .slice A8 (pagesF pg ps).length cp8]) (results_c rfl _ _ rb 37 _ (0, 0) _ rfl BX20.out hu37 rfl size37) rfl ?_
              rw [HDN.out, HLA.out, HPGE.out]
              exact ⟨_, _, _, ss, ps, rfl, ⟨⟨HKF.out.1, HPW.out⟩, HKZ.out.1, HPZ.out⟩, O20.out, D20.out, Q20.out, HB20.out⟩
            | succ gk =>
              have hlt : j < ps.length := by omega
              obtain ⟨q, hq⟩ : ∃ q, ps[j]? = some q := ⟨ps[j], by simp [hlt]⟩
              obtain ⟨ad, e, c0'⟩ := int_cell HI.out hq
              cases e
              have hqm := (HKZ.out.1.2 q).1 (by obtain ⟨h1, h2⟩ := List.getElem?_eq_some_iff.1 hq; rw [← h2]; simp)
              obtain ⟨pv0, hpv0⟩ := Option.isSome_iff_exists.1 hqm
              obtain ⟨m, rfl⟩ := hpgI _ _ hpv0
              obtain ⟨A8, cp8, e8⟩ := slice_of HS.out.q
              subst e8
              have g2 : wr.cell? ⟨gv, 2, none⟩ = some (.slice A8 (pagesF pg (ps.take j)).length cp8) := (blk_cell HS.out.v 2).trans rfl
              have hlk : (Instr.lookup 56 (.map (some pb)) (.int .i64 q) false).run Try.prog wr = .ok (.int .i64 m) wr := by
                have := HS.out.pg.look law3 Try.underlying56 (zero3 _) (keyOf_int_mk Try.underlying3 (page_key HS.out.pg hqm))
                rw [hpv0] at this
                exact this
              obtain ⟨i0, hi0, hz0, hz1, hz2⟩ := info_parts info45
              have hpl2 : (pagesF pg (ps.take j)).length ≤ 1000 := by unfold pagesF; rw [List.length_map, List.length_take]; omega
              have HQ := Aside0.mk hq
              have HPV := Aside0.mk hpv0
              clear hq hpv0 hqm
              go_wp2_with (at_builtin; refine wpList_append_lies _ rfl (.tmp 112) (.tmp 118) 35 rfl w.heap.size 45 i0 _ 2 16 Try.underlying35 hi0 hz0 hz1 hz2 rfl (by decide) _ (pagesF pg (ps.take j)).length ((pagesF pg (ps.take j)).flatMap cells45) rfl (HS.out.q.alloc _) ⟨wr.heap.size, 0, none⟩ 1 1 (cells45 ⟨q, m⟩) rfl rfl (World.news_of_block (blk_new wr (.cells #[.int .i64 q, .int .i64 m] 45))) (one45 q m) (by decide) (by unfold maxLen; omega) (by omega) (by have := HS.out.below.size; simp; omega) _ rfl ?_; intro g2' cap2 w18 hown2 hgrow2 hat2 hlt2; have hpd := HS.out.putFirst (t := ⟨q, m⟩) hown2 hgrow2; have hnn := own_past (j := 2) (u := .slice (some ⟨g2', 0, none⟩) ((pagesF pg (ps.take j)).length + 1) cap2) HI.out (by decide) (by decide) (fun k e => own_typed HS.out.q k e) hgrow2 hpd.1; have e2 : w18.cell? ⟨gv, 2, none⟩ = some (.slice A8 (pagesF pg (ps.take j)).length cp8) := (blk_cell hpd.1 2).trans rfl; have f2 := blk_frozen hpd.1 2; have HP := Aside0.mk hpd.2; have HNN := Aside0.mk hnn; clear hpd hnn hgrow2 hown2 hat2 hlt2)
              go_roundg gk
              case measure => omega
              case rel => exact ⟨j + 1, _, by omega, by simp, by rw [pagesF_succ HQ.out, HPV.out]; exact HP, HNN⟩
        | succ gk =>
          have hlt : j < ss.length := by omega
          obtain ⟨t, ht⟩ : ∃ t, ss[j]? = some t := ⟨ss[j], by simp [hlt]⟩
          have hrd : rd_T24 ss (j : Int) = t := by simp [rd_T24, List.getD, ht]
          obtain ⟨ad, e, c0', c1, c2⟩ := at_T24 (C24 HN.out).2.2 (j : Int) (by omega) (by omega)
          simp only [hrd, Int.toNat_natCast] at c0' c1 c2
          cases e
          have htm : inF la t := (HKF.out.1.2 t).1 (by obtain ⟨h1, h2⟩ := List.getElem?_eq_some_iff.1 ht; rw [← h2]; simp)
          obtain ⟨lv0, hlv0⟩ := Option.isSome_iff_exists.1 htm.2
          obtain ⟨m, rfl⟩ := hlaI _ _ hlv0
          have HT := Aside0.mk ht
          have HL0 := Aside0.mk hlv0
          have HTM := Aside0.mk htm
          clear ht hrd hlv0 htm
          obtain ⟨A4, cp4, hlv⟩ := slice_of HS.out.o
          subst hlv
          go_upto_region 22 with (first
            | ((with_reducible refine gate_dst (N := 14) rfl ?_); refine box_event ?hg (N := 14) ?hd (cs := #[.int .i64 0, .int .i64 0, .int .i64 0]) (t := 24) ?hr ?_; (case hd => rfl); (case hg => rfl); (case hr => first | (go_simp; done) | (go_simp; rfl)); intro tb hg w14 hbox hb; have HB14 := Aside0.mk hb; have HGT := Aside0.mk hg; clear hg hb)
            | (refine store_box rfl rfl rfl rfl (seg := #[.int .i64 t.f0, .int .i64 t.f1, .int .i64 t.f2]) rfl hbox rfl size24 (one24 t) ?_; intro w15 hbox15 hgr15 hsz hbel; have hbb := HB14.out.trans (hbel _ (Nat.le_of_eq HGT.out.symm)); have HS1 := Aside0.mk (HS.out.step hbb); have HN1 := Aside0.mk (own_move HN.out (fun k hk => hbb.block k (HN.out.lt k hk).2)); have BT := Aside0.mk hbox15; clear hbel hgr15 hsz hbb hbox hbox15))
          have g0 : w15.cell? ⟨gv, 0, none⟩ = some (.slice A4 (losersF la (ss.take j)).length cp4) := (blk_cell HS1.out.v 0).trans rfl
          have t0 : w15.cell? ⟨tb, 0, none⟩ = some (.int .i64 t.f0) := (blk_cell BT.out 0).trans rfl
          have t1 : w15.cell? ⟨tb, 1, none⟩ = some (.int .i64 t.f1) := (blk_cell BT.out 1).trans rfl
          have t2 : w15.cell? ⟨tb, 2, none⟩ = some (.int .i64 t.f2) := (blk_cell BT.out 2).trans rfl
          have hlk : (Instr.lookup 55 (.map (some lb)) (.agg #[.int .i64 t.f0, .int .i64 t.f1, .int .i64 t.f2]) false).run Try.prog w15.drew = .ok (.int .i64 m) w15.drew := by
            have := (HS1.out.la.drew).look law24 Try.underlying55 (zero3 _) (keyOf_KL HTM.out.1)
            rw [HL0.out] at this
            exact this
          obtain ⟨i0, hi0, hz0, hz1, hz2⟩ := info_parts info43
          have hll : (losersF la (ss.take j)).length ≤ 1000 := by unfold losersF; rw [List.length_map, List.length_take]; omega
          have hcap1 := Aside0.mk (show (losersF la (ss.take j)).length + 1 ≤ maxLen by unfold maxLen; omega)
          have hcap2 := Aside0.mk (show ((losersF la (ss.take j)).length + 1) * 32 ≤ 140737488355328 by omega)
          have hcap3 := Aside0.mk (show w.heap.size ≤ (w15.alloc (.cells #[.int .i64 t.f0, .int .i64 t.f1, .int .i64 t.f2, .int .i64 m] 43)).heap.size by have := HS1.out.below.size; simp; omega)
          clear c0' c1 c2
          have g0' : (w15.drew.alloc (.cells #[.int .i64 t.f0, .int .i64 t.f1, .int .i64 t.f2, .int .i64 m] 43)).cell? ⟨gv, 0, none⟩ = some (.slice A4 (losersF la (ss.take j)).length cp4) := (blk_cell (blk_alloc (blk_drew HS1.out.v) _) 0).trans rfl
          have g0'' : (w15.alloc (.cells #[.int .i64 t.f0, .int .i64 t.f1, .int .i64 t.f2, .int .i64 m] 43)).cell? ⟨gv, 0, none⟩ = some (.slice A4 (losersF la (ss.take j)).length cp4) := (blk_cell (blk_alloc HS1.out.v _) 0).trans rfl
          go_region_law (first | (refine step_append_lies _ rfl (.tmp 93) (.tmp 99) 33 rfl w.heap.size 43 i0 _ 4 32 Try.underlying33 hi0 hz0 hz1 hz2 rfl (by decide) (.slice A4 (losersF la (ss.take j)).length cp4) (losersF la (ss.take j)).length ((losersF la (ss.take j)).flatMap cells43) rfl (own_move (HS1.out.o.alloc (.cells #[.int .i64 t.f0, .int .i64 t.f1, .int .i64 t.f2, .int .i64 m] 43)) (fun _ _ => rfl)) ⟨w15.heap.size, 0, none⟩ 1 1 (cells43 ⟨t, m⟩) rfl rfl (World.news_of_block (cs := #[.int .i64 t.f0, .int .i64 t.f1, .int .i64 t.f2, .int .i64 m]) (t := 43) (fr := (0, 0)) (blk_new w15 _)) (one43 t m) (by decide) hcap1.out hcap2.out hcap3.out _ rfl ?_; intro g2 cap2 w16 hown2 hgrow2 hat2 hlt2; have hgr2 : (w15.alloc (.cells #[.int .i64 t.f0, .int .i64 t.f1, .int .i64 t.f2, .int .i64 m] 43)).grownBy w16 (Value.slice A4 (losersF la (ss.take j)).length cp4).ownBlock := ⟨hgrow2.os, hgrow2.tape, hgrow2.output, hgrow2.size, hgrow2.block⟩; have hpd := HS1.out.putLoser (t := ⟨t, m⟩) hown2 hgr2; have hbt := blk_grown (blk_alloc BT.out _) hgr2 (fun e => own_ne HS1.out.o BT.out (fun cur e => by cases e) e.symm rfl); have hnn := own_past (j := 0) (u := .slice (some ⟨g2, 0, none⟩) ((losersF la (ss.take j)).length + 1) cap2) HN1.out (by decide) (by decide) (fun k e => own_typed HS1.out.o k e) hgr2 hpd.1; have e0 : w16.cell? ⟨gv, 0, none⟩ = some (.slice A4 (losersF la (ss.take j)).length cp4) := (blk_cell hpd.1 0).trans rfl; have e1 : w16.cell? ⟨tb, 0, none⟩ = some (.int .i64 t.f0) := (blk_cell hbt 0).trans rfl; have e2 : w16.cell? ⟨tb, 1, none⟩ = some (.int .i64 t.f1) := (blk_cell hbt 1).trans rfl; have e3 : w16.cell? ⟨tb, 2, none⟩ = some (.int .i64 t.f2) := (blk_cell hbt 2).trans rfl; have f0 := blk_frozen hpd.1 0; have HP := Aside0.mk hpd.2; have HNN := Aside0.mk hnn; clear hpd hbt hnn hgr2 hgrow2 hown2 hat2 hlt2))
          all_goals (go_wp2_with fail; go_roundg gk; (case measure => omega); (case rel => exact ⟨j + 1, _, by omega, by simp, by rw [losersF_succ HT.out, HL0.out]; exact HP, HNN⟩))
    | succ gk =>
      obtain ⟨x, hx⟩ : ∃ x, l0[i]? = some x := ⟨l0[i], by simp⟩
      have hlt : i < l0.length := by omega
      have hrd : rd_T31 l0 (i : Int) = x := by simp [rd_T31, List.getD, hx]
      obtain ⟨ad, e, c0', c1, c2, c3, c4, c5, c6, c7, c8, c9, c10, c11, c12⟩ := at_T31 (Kd.C_below HR.out HS.out.below) (i : Int) (by omega) (by omega)
      simp only [hrd, Int.toNat_natCast] at c0' c1 c2 c3 c4 c5 c6 c7 c8 c9 c10 c11 c12
      cases e
      have HX := Aside0.mk hx
      clear hx hrd
      have hgc := good_calls x
      cases hg : good x with
      | false =>
        rw [hg] at hgc
        have HG := Aside0.mk hg
        clear hg
        go_wp2_with (first
          | ((with_reducible refine gate_dst (N := 10) rfl ?_); refine box_event ?hg (N := 10) ?hd (cs := zs31) (t := 31) ?hr ?_; (case hd => rfl); (case hg => rfl); (case hr => first | (go_simp; done) | (go_simp; rfl)); intro xb hg w5 hbox hb; have hgs := Aside0.mk (show w.heap.size ≤ xb ∧ gv < xb ∧ rb < xb by rw [hg]; exact ⟨below_size HS.out.below, blk_lt HS.out.v, blk_lt HS.out.r⟩); have HS5 := Aside0.mk (HS.out.step hb); clear HS hg hb)
          | (refine store_box rfl rfl rfl rfl (seg := vs31 x) rfl hbox rfl size31 (one31 x) ?_; intro w6 hbox6 hgr6 hsz hbel; have HS6 := Aside0.mk (HS5.out.box hbox hgs.out.1 (Nat.ne_of_lt hgs.out.2.1) (Nat.ne_of_lt hgs.out.2.2) (by decide) hgr6); obtain ⟨d0, d1, d2, d3, d4, d5, d6, d7, d8, d9, d10, d11, d12⟩ := box31 (x := x) rfl hbox6; have BX := Aside0.mk hbox6; clear hbox6 hgr6 hsz hbel HS5 hbox)
          | (go_at_call 18; refine (hgc _).mono ?_; rintro e w7 ⟨rfl, hb7⟩; have HS7 := Aside0.mk (HS6.out.step hb7); have BX7 := Aside0.mk (blk_below BX.out hb7); clear HS6 BX d0 d1 d2 d3 d4 d5 d6 d7 d8 d9 d10 d11 d12 hb7; obtain ⟨d0, d1, d2, d3, d4, d5, d6, d7, d8, d9, d10, d11, d12⟩ := box31 (x := x) rfl BX7.out))
        go_roundg gk
        case measure => omega
        case rel => exact ⟨i + 1, dv, by omega, by simp, by
          rw [rsAt_succ HX.out]
          have e : rstep l0 a1 i x (rsAt l0 a1 i) = rsAt l0 a1 i := by unfold rstep; rw [HG.out]; rfl
          rw [e]
          exact ⟨HS7.out.more.more⟩⟩
      | true =>
        rw [hg] at hgc
        have HG := Aside0.mk hg
        clear hg
        go_upto_if 39 with (first
          | ((with_reducible refine gate_dst (N := 10) rfl ?_); refine box_event ?hg (N := 10) ?hd (cs := zs31) (t := 31) ?hr ?_; (case hd => rfl); (case hg => rfl); (case hr => first | (go_simp; done) | (go_simp; rfl)); intro xb hg w5 hbox hb; have hgs := Aside0.mk (show w.heap.size ≤ xb ∧ gv < xb ∧ rb < xb by rw [hg]; exact ⟨below_size HS.out.below, blk_lt HS.out.v, blk_lt HS.out.r⟩); have HS5 := Aside0.mk (HS.out.step hb); clear HS hg hb)
          | (refine store_box rfl rfl rfl rfl (seg := vs31 x) rfl hbox rfl size31 (one31 x) ?_; intro w6 hbox6 hgr6 hsz hbel; have HS6 := Aside0.mk (HS5.out.box hbox hgs.out.1 (Nat.ne_of_lt hgs.out.2.1) (Nat.ne_of_lt hgs.out.2.2) (by decide) hgr6); obtain ⟨d0, d1, d2, d3, d4, d5, d6, d7, d8, d9, d10, d11, d12⟩ := box31 (x := x) rfl hbox6; have BX := Aside0.mk hbox6; clear hbox6 hgr6 hsz hbel HS5 hbox)
          | (go_at_call 18; refine (hgc _).mono ?_; rintro e w7 ⟨rfl, hb7⟩; have HS7 := Aside0.mk (HS6.out.step hb7); have BX7 := Aside0.mk (blk_below BX.out hb7); clear HS6 BX d0 d1 d2 d3 d4 d5 d6 d7 d8 d9 d10 d11 d12 hb7; obtain ⟨d0, d1, d2, d3, d4, d5, d6, d7, d8, d9, d10, d11, d12⟩ := box31 (x := x) rfl BX7.out; have hlk := look_end HS7.out.e HG.out rfl))
        clear hlk
        go_cut [28] from 28 to 83 (fun _ wx => Aside0 (RdAt w wx l0 eb lb pb gv rb (2 * i + 1) (rstep l0 a1 i x (rsAt l0 a1 i)).last (rsAt l0 a1 i).done (rsAt l0 a1 i).pages dv) ∧ Aside0 (wx.heap[xb]? = some (.cells (vs31 x) 31 (0, 0))))
        case first =>
          cases he : atEnd l0 x.f1 with
          | true =>
            have HE := Aside0.mk he
            clear he
            go_wp2_with fail
            go_meet
            case rel => exact ⟨⟨by
              have e : (rstep l0 a1 i x (rsAt l0 a1 i)).last = (rsAt l0 a1 i).last := by unfold rstep; rw [HG.out, HE.out]; rfl
              rw [e]
              exact HS7.out.more⟩, BX7⟩
          | false =>
            have HE := Aside0.mk he
            clear he
            go_wp2_with (at_mapUpdate; refine wpList_store _ rfl _ _ _ 55 rfl 24 3 law24 Try.underlying55 _ (2 * i) _ rfl HS7.out.la (by unfold maxLen; omega) _ _ _ rfl rfl (keyOf_KL (good_wf HG.out)) ?_; intro w8 hm8 hgr8 hsz8; have HS8 := Aside0.mk (HS7.out.putLast hm8 hgr8); have BX8 := Aside0.mk (blk_grown BX7.out hgr8 (fun e => map_ne HS7.out.la BX7.out (by injection e.symm))); clear hm8 hgr8 hsz8)
            go_meet
            case rel => exact ⟨⟨by
              have e : (rstep l0 a1 i x (rsAt l0 a1 i)).last = upd (rsAt l0 a1 i).last (KL x.f1) (some (.int .i64 x.f2)) := by unfold rstep; rw [HG.out, HE.out]; rfl
              rw [e]
              exact HS8.out⟩, BX8⟩
        case rest =>
          obtain ⟨HS8, HB8⟩ := hcut
          clear HS7 BX7 d0 d1 d2 d3 d4 d5 d6 d7 d8 d9 d10 d11 d12
          obtain ⟨A2, cp2, hdv⟩ := slice_of HS8.out.d
          subst hdv
          have hct := contains_calls (rsAt l0 a1 i).done x.f1 HS8.out.d (by have := rsAt_len l0 a1 i; omega)
          obtain ⟨d0, d1, d2, d3, d4, d5, d6, d7, d8, d9, d10, d11, d12⟩ := box31 (x := x) rfl HB8.out
          have g1 : wc.cell? ⟨gv, 1, none⟩ = some (.slice A2 (rsAt l0 a1 i).done.length cp2) := (blk_cell HS8.out.v 1).trans rfl
          go_upto_region 13 with fail
          go_cut [55] from 28 to 83 (fun bv wx => bv = .bool (x.f0 == 3 && !hasT (rsAt l0 a1 i).done x.f1) ∧ Aside0 (RdAt w wx l0 eb lb pb gv rb (2 * i + 1) (rstep l0 a1 i x (rsAt l0 a1 i)).last (rsAt l0 a1 i).done (rsAt l0 a1 i).pages (.slice A2 (rsAt l0 a1 i).done.length cp2)) ∧ Aside0 (wx.heap[xb]? = some (.cells (vs31 x) 31 (0, 0))))
          case first =>
            cases hk : (x.f0 == 3) with
            | false =>
              have hk' : decide (x.f0 = 3) = false := by simpa using hk
              go_wp2_with fail
              go_meet
              case rel => exact ⟨by simp [hk], HS8, HB8⟩
            | true =>
              have hk' : decide (x.f0 = 3) = true := by simpa using hk
              go_wp2_with (go_at_call 23; refine hct.mono ?_; rintro e w9 ⟨rfl, hb9⟩; have HS9 := Aside0.mk (HS8.out.step hb9); have BX9 := Aside0.mk (blk_below HB8.out hb9))
              go_meet
              case rel => exact ⟨by simp [hk], HS9, BX9⟩
          case rest =>
            obtain ⟨rfl, HS9, HB9⟩ := hcut
            clear hct HS8 HB8 d0 d1 d2 d3 d4 d5 d6 d7 d8 d9 d10 d11 d12 g1
            have hdl := rsAt_len l0 a1 i
            obtain ⟨B1, hB1⟩ : ∃ B1, B1 = (x.f0 == 3 && !hasT (rsAt l0 a1 i).done x.f1) := ⟨_, rfl⟩
            rw [← hB1]
            have HB1 := Aside0.mk hB1
            clear hB1
            go_upto_if 55 with fail
            go_cut [56] from 28 to 83 (fun _ wx => ∃ dv', Aside0 (RdAt w wx l0 eb lb pb gv rb (2 * i + 1) (rstep l0 a1 i x (rsAt l0 a1 i)).last (rstep l0 a1 i x (rsAt l0 a1 i)).done (rsAt l0 a1 i).pages dv') ∧ Aside0 (wx.heap[xb]? = some (.cells (vs31 x) 31 (0, 0))))
            case first =>
              cases B1 with
              | false =>
                go_wp2_with fail
                go_meet
                case rel => exact ⟨_, ⟨by
                  have e : (rstep l0 a1 i x (rsAt l0 a1 i)).done = (rsAt l0 a1 i).done := by unfold rstep; rw [HG.out]; simp only [if_true]; rw [← HB1.out]; rfl
                  rw [e]
                  exact HS9.out⟩, HB9⟩
              | true =>
                obtain ⟨i0, hi0, hz0, hz1, hz2⟩ := info24'
                obtain ⟨d0, d1, d2, d3, d4, d5, d6, d7, d8, d9, d10, d11, d12⟩ := box31 (x := x) rfl HB9.out
                have g1 : wc.cell? ⟨gv, 1, none⟩ = some (.slice A2 (rsAt l0 a1 i).done.length cp2) := (blk_cell HS9.out.v 1).trans rfl
                have hbs := HS9.out.below.size
                go_wp2_with (first
                  | (at_builtin; refine wpList_append_lies _ rfl (.tmp 57) (.tmp 60) 34 rfl w.heap.size 24 i0 _ 3 24 Try.underlying34 hi0 hz0 hz1 hz2 rfl (by decide) _ (rsAt l0 a1 i).done.length (rows24 (rsAt l0 a1 i).done) rfl (HS9.out.d.alloc _) ⟨wc.heap.size, 0, none⟩ 1 1 (cells24 x.f1) rfl rfl (cells24_new wc x.f1) (cells24_one x.f1) (by decide) (by unfold maxLen; omega) (by omega) (by simp; omega) _ rfl ?_; intro g2 cap2 w10 hown2 hgrow2 hat2 hlt2; have hpd := HS9.out.putDone (t := x.f1) hown2 hgrow2; have e1 : w10.cell? ⟨gv, 1, none⟩ = some (.slice A2 (rsAt l0 a1 i).done.length cp2) := (blk_cell hpd.1 1).trans rfl; have f1 := blk_frozen hpd.1 1; have HPD := Aside0.mk hpd.2; have BX10 := Aside0.mk (blk_grown (blk_alloc HB9.out _) hgrow2 (fun e => own_ne HS9.out.d HB9.out (fun cur e => by cases e) e.symm rfl)); have GVX := Aside0.mk (show gv ≠ xb from fun e => by have h1 := HS9.out.v; have h2 := HB9.out; rw [e, h2] at h1; injection h1 with h1; injection h1 with _ h1; exact absurd h1 (by decide)); clear hpd hown2 hgrow2 hat2 hlt2))
                go_meet
                case rel => exact ⟨_, ⟨by
                  have e : (rstep l0 a1 i x (rsAt l0 a1 i)).done = (rsAt l0 a1 i).done ++ [x.f1] := by unfold rstep; rw [HG.out]; simp only [if_true]; rw [← HB1.out]; rfl
                  rw [e]
                  exact HPD.out⟩, ⟨blk_far BX10.out (fun e => GVX.out e.symm) _⟩⟩
            case rest =>
              obtain ⟨dv', HS10, HB10⟩ := hcut
              clear HS9 HB9 HB1
              obtain ⟨d0, d1, d2, d3, d4, d5, d6, d7, d8, d9, d10, d11, d12⟩ := box31 (x := x) rfl HB10.out
              have hlo := HS10.out.pg.look_ok law3 Try.underlying56 (zero3 _) (keyOf_int_mk Try.underlying3 (page_wf HG.out))
              obtain ⟨z, hz⟩ : ∃ z, z = ((rsAt l0 a1 i).pages (.int .i64 x.f4)).getD (.int .i64 0) := ⟨_, rfl⟩
              rw [← hz] at hlo
              clear hz
              obtain ⟨bi, hbi⟩ : ∃ bi, bi = ((rsAt l0 a1 i).pages (.int .i64 x.f4)).isSome := ⟨_, rfl⟩
              rw [← hbi] at hlo
              have HBI := Aside0.mk hbi
              clear hbi
              go_upto_region 16 with fail
              clear hlo
              have hec := isEnd_calls x
              go_cut [76] from 28 to 83 (fun bv wx => bv = .bool (!bi && !isEnd x) ∧ Aside0 (RdAt w wx l0 eb lb pb gv rb (2 * i + 1) (rstep l0 a1 i x (rsAt l0 a1 i)).last (rstep l0 a1 i x (rsAt l0 a1 i)).done (rsAt l0 a1 i).pages dv') ∧ Aside0 (wx.heap[xb]? = some (.cells (vs31 x) 31 (0, 0))))
              case first =>
                cases bi with
                | true =>
                  go_wp2_with fail
                  go_meet
                  case rel => exact ⟨rfl, HS10, HB10⟩
                | false =>
                  go_wp2_with (go_at_call 24; refine (hec _).mono ?_; rintro e w11 ⟨rfl, hb11⟩; have HS11 := Aside0.mk (HS10.out.step hb11); have BX11 := Aside0.mk (blk_below HB10.out hb11))
                  go_meet
                  case rel => exact ⟨by simp, HS11, BX11⟩
              case rest =>
                obtain ⟨rfl, HS11, HB11⟩ := hcut
                clear HS10 HB10 hec d0 d1 d2 d3 d4 d5 d6 d7 d8 d9 d10 d11 d12
                obtain ⟨d0, d1, d2, d3, d4, d5, d6, d7, d8, d9, d10, d11, d12⟩ := box31 (x := x) rfl HB11.out
                obtain ⟨B2, hB2⟩ : ∃ B2, B2 = (!bi && !isEnd x) := ⟨_, rfl⟩
                rw [← hB2]
                have HB2 := Aside0.mk hB2
                clear hB2
                have hpgs : Aside0 ((rstep l0 a1 i x (rsAt l0 a1 i)).pages = if B2 then upd (rsAt l0 a1 i).pages (.int .i64 x.f4) (some (.int .i64 (a1 + i))) else (rsAt l0 a1 i).pages) := ⟨by
                  rw [HB2.out, HBI.out]
                  unfold rstep
                  rw [HG.out]
                  rfl⟩
                clear HB2 HBI
                cases B2 with
                | false =>
                  go_wp2_with fail
                  go_roundg gk
                  case measure => omega
                  case rel => exact ⟨i + 1, dv', by omega, by simp, by
                    rw [rsAt_succ HX.out, hpgs.out]
                    exact ⟨HS11.out.more⟩⟩
                | true =>
                  go_wp2_with (at_mapUpdate; refine wpList_store _ rfl _ _ _ 56 rfl 3 3 law3 Try.underlying56 _ (2 * i + 1) _ rfl HS11.out.pg (by unfold maxLen; omega) _ _ _ rfl rfl (keyOf_int_mk Try.underlying3 (page_wf HG.out)) ?_; intro w12 hm12 hgr12 hsz12; have HS12 := Aside0.mk (HS11.out.putPage hm12 hgr12); clear hm12 hgr12 hsz12)
                  go_roundg gk
                  case measure => omega
                  case rel => exact ⟨i + 1, dv', by omega, by simp, by
                    rw [rsAt_succ HX.out, hpgs.out]
                    exact HS12⟩
end Go.Proofs.Ytianblmceohmnaa.Hand
