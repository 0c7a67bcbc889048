/- How two names stand; slices.SortedFunc(maps.Keys(m), compare): the names of a map, rising. -/
import Derived.Test.YtianblmceohmnaaTxns
import Derived.Test.YtianblmceohmnaaShelf
import Derived.Test.YtianblmceohmnaaPAllx9
import Derived.Deep.RegionHeld3
import Derived.Shelf.SlSortCmp.NoneTotal
namespace Go.Proofs.Ytianblmceohmnaa.Hand
open Go.RowKit Go.Maps Go.Proofs.Ytianblmceohmnaa.PAll Go.Proofs.YtianblmceohmnaaW.PrintWords Go.Proofs.MapF
open Go.Sort (grow alloc_eq_grow grow_grow)
set_option linter.unusedVariables false
set_option linter.unusedSimpArgs false
set_option maxRecDepth 100000

/-- Draws, and blocks behind. -/
def G (w w' : World) : Prop := ∃ q os', w' = grow (w.drewN q) os'
theorem G.refl (w : World) : G w w := ⟨0, #[], by simp [World.drewN]⟩
theorem G.alloc {w X : World} (h : G w X) (o : Obj) : G w (X.alloc o) := by
  obtain ⟨q, os', rfl⟩ := h
  exact ⟨q, os' ++ #[o], by rw [alloc_eq_grow, grow_grow]⟩
theorem G.drewN {w X : World} (h : G w X) (n : Nat) : G w (X.drewN n) := by
  obtain ⟨q, os', rfl⟩ := h
  exact ⟨q + n, os', by simp [World.drewN, grow, Nat.add_assoc]⟩
theorem G.drew {w X : World} (h : G w X) : G w X.drew := by
  have := h.drewN 1
  exact this

def cc (a b : Int) : Int := if a < b then -1 else if b < a then 1 else 0
theorem cc_some (a b : Int) : cmp_Compare_int.f a b = some (cc a b) := by
  unfold cmp_Compare_int.f cmp_isNaN_int.f cc
  have e : ∀ z : Int, (z != z) = false := fun z => by simp
  simp only [e, Option.bind_some]
  simp
  split
  · rfl
  · split <;> simp_all
def or3 (a b c : Int) : Int := if a = 0 then (if b = 0 then c else b) else a
theorem or3_some (a b c : Int) : cmp_Or_int.f 5 [a, b, c] = some (or3 a b c) := by
  unfold or3
  by_cases h1 : a = 0 <;> by_cases h2 : b = 0 <;> by_cases h3 : c = 0 <;> simp [cmp_Or_int.f, cmp_Or_int.l0, rd, wrap64, h1, h2, h3]
def cmp24 (x y : S24) : Int := or3 (cc x.f0 y.f0) (cc x.f1 y.f1) (cc x.f2 y.f2)

theorem or_calls (a b c : Int) (g : Nat) (w : World) (h0 : w.cell? ⟨g, 0, none⟩ = some (.int .i64 a)) (h1 : w.cell? ⟨g, 1, none⟩ = some (.int .i64 b)) (h2 : w.cell? ⟨g, 2, none⟩ = some (.int .i64 c)) :
    Calls Try.prog 42 #[.slice (some ⟨g, 0, none⟩) 3 3] w fun e w' => e = .returned (.int .i64 (or3 a b c)) ∧ Drawn0 w w' := by
  refine cmp_Or_int.calls 5 (some ⟨g, 0, none⟩) 3 [a, b, c] _ w ⟨rfl, by simp, fun _ => ⟨_, rfl, fun j p hp => ⟨[.int .i64 p], rfl, rfl, fun i u hu => ?_⟩⟩⟩ (by simp) (or3_some a b c)
  have hi : i = 0 := by
    have := (List.getElem?_eq_some_iff.1 hu).1
    simp at this
    exact this
  subst hi
  simp at hu
  subst hu
  rw [Addr.add_mid]
  rcases j with _ | _ | _ | j
  · simp at hp; subst hp; exact h0
  · simp at hp; subst hp; exact h1
  · simp at hp; subst hp; exact h2
  · simp at hp
set_option maxHeartbeats 8000000 in
theorem compare_grown (x y : S24) (w : World) : Calls Try.prog 27 #[.agg #[.int .i64 x.f0, .int .i64 x.f1, .int .i64 x.f2], .agg #[.int .i64 y.f0, .int .i64 y.f1, .int .i64 y.f2]] w fun e w' => e = .returned (.int .i64 (cmp24 x y)) ∧ G w w' := by
  have c0 := fun W => cmp_Compare_int.calls x.f0 y.f0 _ W (cc_some _ _)
  have c1 := fun W => cmp_Compare_int.calls x.f1 y.f1 _ W (cc_some _ _)
  have c2 := fun W => cmp_Compare_int.calls x.f2 y.f2 _ W (cc_some _ _)
  unfold cmp24
  generalize cc x.f0 y.f0 = r0 at *
  generalize cc x.f1 y.f1 = r1 at *
  generalize cc x.f2 y.f2 = r2 at *
  go_enter Try.func27, Try.ntmps27
  go_wp2_with fail
  have hG : G w ((w.alloc (.cells #[.int .i64 x.f0, .int .i64 x.f1, .int .i64 x.f2] 24)).alloc (.cells #[.int .i64 y.f0, .int .i64 y.f1, .int .i64 y.f2] 24)) := ((G.refl w).alloc _).alloc _
  have b1 : ((w.alloc (.cells #[.int .i64 x.f0, .int .i64 x.f1, .int .i64 x.f2] 24)).alloc (.cells #[.int .i64 y.f0, .int .i64 y.f1, .int .i64 y.f2] 24)).heap[w.heap.size]? = some (.cells #[.int .i64 x.f0, .int .i64 x.f1, .int .i64 x.f2] 24 (0, 0)) := blk_alloc (blk_new w _) _
  have b2 : ((w.alloc (.cells #[.int .i64 x.f0, .int .i64 x.f1, .int .i64 x.f2] 24)).alloc (.cells #[.int .i64 y.f0, .int .i64 y.f1, .int .i64 y.f2] 24)).heap[w.heap.size + 1]? = some (.cells #[.int .i64 y.f0, .int .i64 y.f1, .int .i64 y.f2] 24 (0, 0)) := by
    have h := blk_new (w.alloc (.cells #[.int .i64 x.f0, .int .i64 x.f1, .int .i64 x.f2] 24)) (.cells #[.int .i64 y.f0, .int .i64 y.f1, .int .i64 y.f2] 24)
    rw [World.size_alloc] at h
    exact h
  generalize hW : (w.alloc (.cells #[.int .i64 x.f0, .int .i64 x.f1, .int .i64 x.f2] 24)).alloc (.cells #[.int .i64 y.f0, .int .i64 y.f1, .int .i64 y.f2] 24) = W at *
  clear hW
  generalize hg1 : w.heap.size = g1 at *
  generalize hg2 : g1 + 1 = g2 at *
  have HGG := Aside0.mk hG
  clear hG hg1 hg2
  have hs : (fun W' : World => W'.cell? ⟨g1, 0, none⟩ = some (.int .i64 x.f0) ∧ W'.cell? ⟨g1, 1, none⟩ = some (.int .i64 x.f1) ∧ W'.cell? ⟨g1, 2, none⟩ = some (.int .i64 x.f2) ∧ W'.cell? ⟨g2, 0, none⟩ = some (.int .i64 y.f0) ∧ W'.cell? ⟨g2, 1, none⟩ = some (.int .i64 y.f1) ∧ W'.cell? ⟨g2, 2, none⟩ = some (.int .i64 y.f2)) W :=
    ⟨(blk_cell b1 0).trans rfl, (blk_cell b1 1).trans rfl, (blk_cell b1 2).trans rfl, (blk_cell b2 0).trans rfl, (blk_cell b2 1).trans rfl, (blk_cell b2 2).trans rfl⟩
  have l1 := blk_lt b1
  have l2 := blk_lt b2
  obtain ⟨s0, s1, s2, s3, s4, s5⟩ := hs
  clear b1 b2
  go_region_held3 (fun W' : World => W'.cell? ⟨g1, 0, none⟩ = some (.int .i64 x.f0) ∧ W'.cell? ⟨g1, 1, none⟩ = some (.int .i64 x.f1) ∧ W'.cell? ⟨g1, 2, none⟩ = some (.int .i64 x.f2) ∧ W'.cell? ⟨g2, 0, none⟩ = some (.int .i64 y.f0) ∧ W'.cell? ⟨g2, 1, none⟩ = some (.int .i64 y.f1) ∧ W'.cell? ⟨g2, 2, none⟩ = some (.int .i64 y.f2))
    (first | exact ⟨s0, s1, s2, s3, s4, s5⟩ | go_keep)
    (first
      | (go_at_call 43; (first | (with_reducible refine (c0 _).mono ?_) | (with_reducible refine (c1 _).mono ?_) | (with_reducible refine (c2 _).mono ?_)); rintro e w' ⟨rfl, ⟨nd, rfl⟩⟩)
      | (go_at_call 42; refine (or_calls r0 r1 r2 _ _ ?o0 ?o1 ?o2).mono ?_; (case o0 => exact (blk_cell (blk_new (World.drewN _ _) _) 0).trans rfl); (case o1 => exact (blk_cell (blk_new (World.drewN _ _) _) 1).trans rfl); (case o2 => exact (blk_cell (blk_new (World.drewN _ _) _) 2).trans rfl); rintro e w' ⟨rfl, ⟨nd, rfl⟩⟩))
  go_wp2
  go_ret
  refine ⟨rfl, ?_⟩
  repeat (first | exact HGG.out | refine G.drewN ?_ _ | refine G.drew ?_ | refine G.alloc ?_ _)

/-! The order. -/
def Lt24 (x y : S24) : Prop := x.f0 < y.f0 ∨ (x.f0 = y.f0 ∧ (x.f1 < y.f1 ∨ (x.f1 = y.f1 ∧ x.f2 < y.f2)))
theorem cmp24_lt (x y : S24) : cmp24 x y < 0 ↔ Lt24 x y := by
  unfold cmp24 or3 cc Lt24
  repeat' split
  all_goals omega
theorem lt24_iff (x y : S24) : Go.Proofs.ltOf cmp24 x y = true ↔ Lt24 x y := by
  unfold Go.Proofs.ltOf
  rw [decide_eq_true_iff]
  exact cmp24_lt x y
theorem lt24_false (x y : S24) : Go.Proofs.ltOf cmp24 x y = false ↔ ¬ Lt24 x y := by
  rw [← lt24_iff]; simp
theorem swo24 : Go.Sort.SWO (Go.Proofs.ltOf cmp24) where
  irrefl x := by rw [lt24_false]; unfold Lt24; omega
  trans x y z h1 h2 := by rw [lt24_iff] at *; unfold Lt24 at *; omega
  ntrans x y z h1 h2 := by rw [lt24_false] at *; unfold Lt24 at *; omega
theorem lt24_tri {x y : S24} (h1 : ¬ Lt24 x y) (h2 : ¬ Lt24 y x) : x = y := by
  cases x; cases y
  unfold Lt24 at *
  simp at *
  omega

instance : Inhabited S24 := ⟨z24⟩
theorem cells24_len (x : S24) : (cells24 x).length = 3 := rfl
theorem rows24_get : ∀ (l : List S24) (t : Nat), (rows24 l)[t]? = (l[t / 3]?).bind (fun x => (cells24 x)[t % 3]?)
  | [], t => by simp [rows24]
  | x :: l, t => by
    have e : rows24 (x :: l) = cells24 x ++ rows24 l := by simp [rows24]
    rw [e]
    by_cases h : t < 3
    · rw [List.getElem?_append_left (by simpa [cells24] using h)]
      have h1 : t / 3 = 0 := by omega
      have h2 : t % 3 = t := by omega
      rw [h1, h2]; rfl
    · rw [List.getElem?_append_right (by simp [cells24]; omega), cells24_len, rows24_get l (t - 3)]
      have h1 : t / 3 = (t - 3) / 3 + 1 := by omega
      have h2 : t % 3 = (t - 3) % 3 := by omega
      rw [h1, h2]; rfl
theorem flat24 (l : List S24) : Go.Sort.flatK cells24 3 l.toArray = (rows24 l).toArray := by
  apply Array.ext'
  apply List.ext_getElem?
  intro t
  unfold Go.Sort.flatK
  rw [rows24_get]
  by_cases h : t < l.length * 3
  · have h3 : t / 3 < l.length := by omega
    have h4 : t % 3 < 3 := by omega
    simp [h, h3]
    have : (cells24 l[t / 3])[t % 3]? = some (cells24 l[t / 3])[t % 3]! := by
      generalize l[t / 3] = x
      rcases (show t % 3 = 0 ∨ t % 3 = 1 ∨ t % 3 = 2 by omega) with e | e | e <;> rw [e] <;> rfl
    rw [this]
    rfl
  · have h3 : l.length ≤ t / 3 := by omega
    simp [h, h3]

theorem holds24 {w : World} {g : Nat} {cur : Array Value} {l : List S24} (hb : w.heap[g]? = some (.cells cur 24 (0, 0))) (ht : cur.toList.take (l.length * 3) = rows24 l) : Go.Sort.HoldsK cells24 3 w g 0 l.toArray := by
  unfold Go.Sort.HoldsK
  rw [flat24]
  intro j hj
  have hj' : j < l.length * 3 := by simpa [rows24_length] using hj
  refine ⟨?_, by simp [World.frozen?, hb]⟩
  have h1 : (cur.toList.take (l.length * 3))[j]? = (rows24 l)[j]? := by rw [ht]
  rw [List.getElem?_take_of_lt hj'] at h1
  simp only [World.cell?, hb, Nat.zero_add, Option.isSome_none, Bool.false_eq_true, if_false]
  rw [← Array.getElem?_toList, h1]
  have hj2 : j < (rows24 l).length := by rw [rows24_length]; exact hj'
  simp [hj2]

theorem heap_put24 {w : World} {g n : Nat} {os : Array Obj} {cur : Array Value} {e : TypeId} {fr : Nat × Nat} (d : Array Value) (hb : w.heap[g]? = some (.cells cur e fr)) :
    (grow (Go.Sort.putRow id (Go.Sort.ahead w n) g 0 d) os).heap[g]? = some (.cells (Go.Sort.putCells id 0 d cur) e fr) := by
  have hg : g < w.heap.size := (Array.getElem?_eq_some_iff.1 hb).1
  rw [Go.Sort.heap_grow_old _ _ (by simpa using hg)]
  simp [Go.Sort.putRow, Go.Sort.mapBlock, Go.Sort.ahead, Array.getElem?_modify, hb, Go.Sort.onCells]
theorem grown_put24 {w : World} {g n : Nat} {os : Array Obj} (d : Array Value) : w.grownBy (grow (Go.Sort.putRow id (Go.Sort.ahead w n) g 0 d) os) (some g) := by
  refine ⟨rfl, rfl, rfl, by simp, fun k hk hne => ?_⟩
  rw [Go.Sort.heap_grow_old _ _ (by simpa using hk)]
  have : g ≠ k := fun e => hne (by rw [e])
  simp [Go.Sort.putRow, Go.Sort.mapBlock, Go.Sort.ahead, Array.getElem?_modify, this]
theorem take_put24 (cur : Array Value) (ts : List Value) (h : ts.length ≤ cur.size) : (Go.Sort.putCells id 0 ts.toArray cur).toList.take ts.length = ts := by
  apply List.ext_getElem?
  intro j
  by_cases hj : j < ts.length
  · rw [List.getElem?_take_of_lt hj, Array.getElem?_toList]
    simp [Go.Sort.putCells, hj, show j < cur.size by omega]
  · rw [List.getElem?_take_eq_none (by omega), List.getElem?_eq_none (by omega)]

theorem isAgg24' (w : World) : (isAgg 24).run Try.prog w = .ok true w := Try.isAgg24 w
theorem sizeOf24' (w : World) : (Go.sizeOf 24).run Try.prog w = .ok 3 w := Try.sizeOf24 w
theorem cmp_lays (blk off size : Nat) (w : World) : Go.Proofs.CmpLays Try.prog 27 #[] cells24 3 cmp24 blk off size w :=
  fun _ _ _ _ x y => compare_grown x y _

/-- slices.SortFunc(names, compare) -/
theorem sort40 (base g cap : Nat) (l : List S24) (w : World) (cur : Array Value) (hb : w.heap[g]? = some (.cells cur 24 (0, 0))) (hbase : base ≤ g) (h1 : l.length ≤ cap) (h2 : cap ≤ maxLen) (h3 : cur.size = cap * 3) (ht : cur.toList.take (l.length * 3) = rows24 l) (hll : l.length ≤ 1000) :
    Calls Try.prog 40 #[.slice (some ⟨g, 0, none⟩) l.length cap, .func (.func 27) #[] #[]] w fun e w' => e = .returned (.tuple #[]) ∧
      ∃ l' : List S24, l'.Perm l ∧ l'.Pairwise (fun x y => ¬ Lt24 y x) ∧ w'.ownsRow base 24 3 (.slice (some ⟨g, 0, none⟩) l.length cap) l'.length (rows24 l') ∧ w.grownBy w' (some g) := by
  have eg : ∀ args w, (callFunc 27 args).run Try.prog w = .ok (.enter 27 args) w := enters_of Try.func27 (by kernel_rfl) rfl
  have hcon := Go.Proofs.AnyQ.slices_SortFunc Try.sortTxn 3 isAgg24' sizeOf24' cells24 cells24_len (fun x v hv => cells24_one x v hv) cmp24 swo24 27 #[] g 0 cap l.toArray w eg (cmp_lays g 0 _ w) (holds24 hb ht) (blk_lt hb) (by simp; omega)
  change Calls Try.prog 40 _ _ _ at hcon
  have hsz : l.toArray.size = l.length := by simp
  rw [hsz] at hcon
  refine hcon.mono ?_
  rintro e w' ⟨rfl, d', n, os, hp, hs, rfl⟩
  refine ⟨rfl, d'.toList, ?_, ?_, ?_, ?_⟩
  · have := hp.2.2
    have hd : d'.size = l.length := by rw [hp.1]; simp
    rw [show d'.extract 0 l.length = d' by rw [← hd]; simp] at this
    simpa using this
  · rw [List.pairwise_iff_getElem]
    intro i j hi hj hij
    have hd : d'.size = l.length := by rw [hp.1]; simp
    have := hs i j (Nat.zero_le _) hij (by simpa [hd] using hj)
    rw [lt24_false] at this
    simpa [getElem!_pos, show i < d'.size by simpa using hi, show j < d'.size by simpa using hj] using this
  · have hd : d'.size = l.length := by rw [hp.1]; simp
    have hf : Go.Sort.flatK cells24 3 d' = (rows24 d'.toList).toArray := by
      have := flat24 d'.toList
      simpa using this
    have hl : (rows24 d'.toList).length = l.length * 3 := by rw [rows24_length]; simp [hd]
    unfold Go.Proofs.sortWorldK Go.Sort.putRowK
    rw [hf]
    refine ⟨by rw [rows24_length], .inr ⟨g, cap, _, by simp [hd], hbase, heap_put24 _ hb, by simpa [hd] using h1, h2, by simp [Go.Sort.putCells, h3], ?_⟩⟩
    have := take_put24 cur (rows24 d'.toList) (by rw [hl, h3]; omega)
    rw [hl] at this
    simpa [hd] using this
  · unfold Go.Proofs.sortWorldK Go.Sort.putRowK
    exact grown_put24 _

set_option maxHeartbeats 4000000 in
/-- slices.SortedFunc(maps.Keys(m), compare) -/
theorem sorted25 (Bm b nn : Nat) (f : Lit → Option Value) (w : World) (hBm : Bm < w.heap.size) (hm : w.cell? ⟨Bm, 0, none⟩ = some (.map (some b))) (hM : At Try.prog 24 w b nn f) (hnn : nn ≤ 1000) :
    Calls Try.prog 25 #[.func (.func 41) #[] #[.pointer (some ⟨Bm, 0, none⟩)], .func (.func 27) #[] #[]] w fun e w' =>
      ∃ (v : Value) (ss : List S24), e = .returned v ∧ (KeysF f ss ∧ ss.length ≤ nn) ∧ ss.Pairwise Lt24 ∧ w'.ownsRow w.heap.size 24 3 v ss.length (rows24 ss) ∧ Below w.heap.size w w' := by
  have hc := (callsIn_wide (n := 4)).1 (collect39_in 4 (by omega) Bm b nn f w hBm hm hM hnn)
  have hn := fun cap fv W => Go.Proofs.AnyF.slices_SortFunc_none Try.sortTxn none cap fv W
  go_enter Try.func25, Try.ntmps25
  go_wp2_with (go_at_call 39; refine hc.mono ?_; rintro e w1 ⟨v, ss, rfl, hS, hrow, hb⟩; have HS := Aside0.mk hS; have HB := Aside0.mk hb; have HR := Aside0.mk hrow; clear hS hb hrow)
  rcases HR.out.2 with ⟨rfl, hz⟩ | ⟨g, cap, cur, rfl, hbase, hgb, r1, r2, r3, r4⟩
  · have hss : ss = [] := List.eq_nil_of_length_eq_zero hz
    subst hss
    refine (hn 0 _ w1).mono ?_
    rintro e w' ⟨rfl, rfl⟩
    go_wp2
    go_ret
    exact ⟨_, [], rfl, HS.out, List.Pairwise.nil, HR.out, HB.out⟩
  · have hso := sort40 w.heap.size g cap ss w1 cur hgb hbase r1 r2 r3 r4 (Nat.le_trans HS.out.2 hnn)
    have HGB := Aside0.mk hgb
    have HBS := Aside0.mk hbase
    clear hgb hbase r1 r2 r3 r4
    refine hso.mono ?_
    rintro e w' ⟨rfl, l', hp, hpw, hrow, hg⟩
    have HP := Aside0.mk hp
    have HPW := Aside0.mk hpw
    have HRW := Aside0.mk hrow
    have HG := Aside0.mk hg
    clear hp hpw hrow hg hso
    go_wp2
    go_ret
    refine ⟨_, l', rfl, ⟨⟨HP.out.nodup_iff.2 HS.out.1.1, fun t => HP.out.mem_iff.trans (HS.out.1.2 t)⟩, by rw [HP.out.length_eq]; exact HS.out.2⟩, ?_, by rw [← HP.out.length_eq] at *; exact HRW.out, ?_⟩
    · have hnd : l'.Nodup := HP.out.nodup_iff.2 HS.out.1.1
      refine (HPW.out.and hnd).imp (fun {a b} h => ?_)
      rcases Classical.em (Lt24 a b) with h1 | h1
      · exact h1
      · exact absurd (lt24_tri h1 h.1) h.2
    · exact HB.out.grown HG.out HB.out.size (fun k e => by cases e; exact HBS.out)
end Go.Proofs.Ytianblmceohmnaa.Hand
