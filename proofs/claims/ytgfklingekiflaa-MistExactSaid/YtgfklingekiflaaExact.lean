/- The walk of MistExact: at every list of calls it returns true. -/
import Derived.Deep.RegionLaw
import Derived.Deep.RegionWith
import Derived.Deep.LoopGhost
import Derived.Deep.DeepCutAuto
import Derived.Deep.CutBlock
import Derived.BigRegion
import Derived.Outline
import Derived.Deep.RegionHeld3
import Derived.Test.YtgfklingekiflaaTwo
import Derived.Test.YtgfklingekiflaaQuietRound
import Derived.Sort.BigQuietIn
import Derived.MapKept
import Derived.Laws.StructEq
import Derived.Test.YtgfklingekiflaaAwake
namespace Go.Proofs.Ytgfklingekiflaa
open Go.RowKit Go.Shelf Go.BigFrame
attribute [local go_sem] Oper.semAt_some
set_option linter.unusedSimpArgs false
set_option linter.unusedVariables false

theorem Rd.start {w0 W : World} {rb nb ub tb : Nat} {v1 v2 : Value} {l1 l2 : List G} {x : Act8} (h : Two w0 W rb nb ub tb v1 v2 l1 l2) :
    Rd w0 (((W.alloc (.cells #[.int .i64 x.k, .int .i64 x.g.c, .bool x.g.u, .int .i64 x.g.e, .int .i64 x.g.s, .int .i64 x.g.a, .string x.g.b, .int .i64 x.t] 44)).alloc (.cells #[.int .i64 0, .bool false, .int .i64 0, .int .i64 0, .int .i64 0, .string ⟨#[]⟩] 27)).alloc (.cells #[.int .i64 0, .bool false, .int .i64 0, .int .i64 0, .int .i64 0, .string ⟨#[]⟩] 27))
      rb nb ub tb v1 v2 l1 l2 W.heap.size (W.heap.size + 1) (W.heap.size + 1 + 1) x G.zero G.zero := by
  have x1 := World.alloc_heap_new W (.cells #[.int .i64 x.k, .int .i64 x.g.c, .bool x.g.u, .int .i64 x.g.e, .int .i64 x.g.s, .int .i64 x.g.a, .string x.g.b, .int .i64 x.t] 44)
  have x2 := World.alloc_heap_new (W.alloc (.cells #[.int .i64 x.k, .int .i64 x.g.c, .bool x.g.u, .int .i64 x.g.e, .int .i64 x.g.s, .int .i64 x.g.a, .string x.g.b, .int .i64 x.t] 44)) (.cells #[.int .i64 0, .bool false, .int .i64 0, .int .i64 0, .int .i64 0, .string ⟨#[]⟩] 27)
  have x3 := World.alloc_heap_new ((W.alloc (.cells #[.int .i64 x.k, .int .i64 x.g.c, .bool x.g.u, .int .i64 x.g.e, .int .i64 x.g.s, .int .i64 x.g.a, .string x.g.b, .int .i64 x.t] 44)).alloc (.cells #[.int .i64 0, .bool false, .int .i64 0, .int .i64 0, .int .i64 0, .string ⟨#[]⟩] 27)) (.cells #[.int .i64 0, .bool false, .int .i64 0, .int .i64 0, .int .i64 0, .string ⟨#[]⟩] 27)
  simp only [World.size_alloc] at x2 x3
  have hsz := h.below.size
  have ho : ∀ {v : Value} {n base : Nat} {ys : List Value}, W.ownsRow base 27 6 v n ys → ∀ k, W.heap.size ≤ k → v.ownBlock ≠ some k := fun hr k hk e => by have := (hr.lt k e).2; omega
  refine ⟨h.step ((((Below.refl _ W).alloc (Nat.le_refl _) _).alloc (by simp) _).alloc (by simp; omega) _), ?_, ?_, x3, by omega, by omega, by omega, ho h.n.row _ (by omega), ho h.n.row _ (by omega), ho h.u.row _ (by omega), ho h.u.row _ (by omega)⟩
  · rw [Below.heap_alloc _ _ _ (by simp; omega), Below.heap_alloc _ _ _ (by simp), x1]; rfl
  · rw [Below.heap_alloc _ _ _ (by simp), x2]; rfl

theorem leaves_true {w w' : World} {rb : Nat} {ts : Array Value} (ht : ts.getD 2 undef = .pointer (some ⟨rb, 0, none⟩)) (hc : w'.cell? ⟨rb, 0, none⟩ = some (.bool true)) (hB : Below w.heap.size w w') :
    bodyPostM Fence.wide 4 Try.prog Try.f6 (fun e w' => e = .returned (.bool true) ∧ Below w.heap.size w w') .ret { tmps := ts, defers := [] } w' := by
  refine ⟨.bool true, ?_, rfl, hB⟩
  simp only [Array.getD_eq_getD_getElem?] at ht
  simp [results, Try.results6, go_sem, hc, ht]

theorem set_true {W : World} {rb : Nat} (hr : W.heap[rb]? = some (.cells #[.bool false] 4 (0, 0))) : (W.setCell ⟨rb, 0, none⟩ (.bool true)).cell? ⟨rb, 0, none⟩ = some (.bool true) :=
  ((show Boxed W rb 4 (.bool false) from hr).set (.bool true)).cell

theorem Rd.limbs {w0 W : World} {rb nb ub tb ab gb hb : Nat} {v1 v2 : Value} {l1 l2 : List G} {x : Act8} {g h : G} (H : Rd w0 W rb nb ub tb v1 v2 l1 l2 ab gb hb x g h) :
    W.cell? ⟨tb, 0, none⟩ = some (.pointer (some ⟨ub, 0, none⟩)) ∧ W.cell? ⟨ab, 1, none⟩ = some (.int .i64 x.g.c) ∧ W.cell? ⟨ab, 2, none⟩ = some (.bool x.g.u) ∧ W.cell? ⟨ab, 3, none⟩ = some (.int .i64 x.g.e) ∧ W.cell? ⟨ab, 4, none⟩ = some (.int .i64 x.g.s) ∧ W.cell? ⟨ab, 5, none⟩ = some (.int .i64 x.g.a) ∧ W.cell? ⟨ab, 6, none⟩ = some (.string x.g.b) := by
  obtain ⟨_, c1, c2, c3, c4, c5, c6, _⟩ := cells8 H.a
  exact ⟨H.two.tcell, c1, c2, c3, c4, c5, c6⟩

theorem run_equalIn_func_nil (w : World) (d : Nat) (B : Nat) : (Op.equalIn (d + 1) 50 (.func (.func 31) #[] #[.pointer (some ⟨B, 0, none⟩)]) .nilFunc).run Try.prog w = .ok false w := by
  simp [Op.equalIn, run_underlying Try.underlying50]
theorem run_eql_func_nil (w : World) (B : Nat) : (binOp .eql 50 (.func (.func 31) #[] #[.pointer (some ⟨B, 0, none⟩)]) .nilFunc).run Try.prog w = .ok (.bool false) w := by
  simp only [binOp]
  simp [Op.equal, Op.maxDepth, run_equalIn_func_nil w 9999 B]

theorem Two.own {w0 W W' : World} {rb nb ub tb : Nat} {v1 v2 : Value} {l1 l2 : List G} (H : Two w0 W rb nb ub tb v1 v2 l1 l2) {row : Option Nat} {B : Nat} (hB : w0.heap.size ≤ B) (hg : W.grownBy W' row) (hr : ∀ r, row = some r → B ≤ r ∧ ∃ o : Obj, W.heap[r]? = some o ∧ o.isCells = false) : Two w0 W' rb nb ub tb v1 v2 l1 l2 := by
  have key : ∀ {k : Nat} {c : Array Value} {t : TypeId} {f : Nat × Nat}, W.heap[k]? = some (.cells c t f) → W'.heap[k]? = W.heap[k]? := fun {k c t f} h =>
    hg.block k (Array.getElem?_eq_some_iff.1 h).1 (fun e => by
      obtain ⟨_, o, ho, hc⟩ := hr k e.symm
      rw [h] at ho
      cases ho
      cases hc)
  have rowk : ∀ {v : Value} {n base : Nat} {ys : List Value}, W.ownsRow base 27 6 v n ys → ∀ k, v.ownBlock = some k → W'.heap[k]? = W.heap[k]? := fun {v n base ys} h k hk => by
    rcases h.2 with ⟨rfl, _⟩ | ⟨g, cap, cur, rfl, _, hgg, _⟩
    · cases hk
    · have : g = k := by simpa [Value.ownBlock] using hk
      subst this
      exact key hgg
  exact ⟨H.n.same (key H.n.box) (rowk H.n.row), H.u.same (key H.u.box) (rowk H.u.row), (key H.r).trans H.r, (key H.t).trans H.t, H.below.grown hg H.below.size (fun k e => Nat.le_trans hB (hr k e).1), H.rle, H.tle, H.v12⟩

theorem boxed_own' {W W' : World} {b : Nat} {t : TypeId} {v : Value} (h : Boxed W b t v) {row : Option Nat} {B : Nat} (hg : W.grownBy W' row) (hr : ∀ r, row = some r → B ≤ r ∧ ∃ o : Obj, W.heap[r]? = some o ∧ o.isCells = false) : Boxed W' b t v :=
  h.kept hg (fun e => by obtain ⟨_, o, ho, hc⟩ := hr _ e.symm; rw [show W.heap[b]? = _ from h] at ho; cases ho; cases hc)

theorem Two.kset {w0 W : World} {rb nb ub tb kb : Nat} {v1 v2 : Value} {l1 l2 : List G} (H : Two w0 W rb nb ub tb v1 v2 l1 l2) {x : Value} (hk : Boxed W kb 3 x) (hle : w0.heap.size ≤ kb) (y : Value) : Two w0 (W.setCell ⟨kb, 0, none⟩ y) rb nb ub tb v1 v2 l1 l2 := by
  have hk' : W.heap[kb]? = some (.cells #[x] 3 (0, 0)) := hk
  have hn : ∀ k, k ≠ kb → (W.setCell ⟨kb, 0, none⟩ y).heap[k]? = W.heap[k]? := fun k h => Below.heap_setCell _ _ _ _ h
  exact ⟨H.n.same (hn _ (cells_ne H.n.box hk' (by decide))) (fun k e => hn k (fun e2 => row_ne hk' (by decide) H.n.row (e2 ▸ e))), H.u.same (hn _ (cells_ne H.u.box hk' (by decide))) (fun k e => hn k (fun e2 => row_ne hk' (by decide) H.u.row (e2 ▸ e))),
    (hn _ (cells_ne H.r hk' (by decide))).trans H.r, (hn _ (cells_ne H.t hk' (by decide))).trans H.t, H.below.setCell (p := ⟨kb, 0, none⟩) hle _, H.rle, H.tle, H.v12⟩

theorem keepsCells_set (kb : Nat) (W : World) (y : Value) : KeepsCells kb W (W.setCell ⟨kb, 0, none⟩ y) :=
  ⟨by simp [World.setCell], fun k o hk ho _ => by rw [Below.heap_setCell _ _ _ _ hk]; exact ho⟩

theorem all_stops (n B base b kb : Nat) (v : Value) (l : List G) (w : World) (hkb : kb < w.heap.size) (hl : l.length ≤ 1000000) (hB : w.cell? ⟨B, 0, none⟩ = some (.pointer (some ⟨b, 0, none⟩))) (hN : NetAt base w b v l) :
    SeqStopsK Fence.wide n Try.prog 31 #[.pointer (some ⟨B, 0, none⟩)] (fun x : G => #[Value.agg #[.int .i64 x.c, .bool x.u, .int .i64 x.e, .int .i64 x.s, .int .i64 x.a, .string x.b]]) (KeepsCells kb) (fun ys => ys = l) (fun pre => pre <+: l) l.length w := fun y J Jx W hW hJ hJx hY h0 =>
  all1_in n y B base b kb v l W J Jx (Nat.lt_of_lt_of_le hkb hW.size) hl hY hJ ((hW.cell (p := ⟨B, 0, none⟩) (World.block_lt_of_cell? _ _ hB)).trans hB) (hN.below hW) h0

theorem leaves_mark {w W : World} {rb D : Nat} {ts : Array Value} (ht : ts.getD 2 undef = .pointer (some ⟨rb, 0, none⟩)) (hr : W.heap[rb]? = some (.cells #[.bool false] 4 (0, 0))) (hle : w.heap.size ≤ rb) (hB : Below w.heap.size w W) (hD : w.heap.size ≤ D) (hK : W.heap[D]? = some (.deferred (some []))) :
    bodyPostM Fence.wide 4 Try.prog Try.f6 (fun e w' => e = .returned (.bool true) ∧ Below w.heap.size w w') .ret { tmps := ts, defers := [{ target := .collected D, args := #[] }] } ((W.setCell ⟨rb, 0, none⟩ (.bool true)).drew) := by
  have hne : D ≠ rb := fun e => by subst e; rw [hr] at hK; cases hK
  have hK2 : ((W.setCell ⟨rb, 0, none⟩ (.bool true)).drew).heap[D]? = some (.deferred (some [])) := (Below.heap_setCell W _ _ D hne).trans hK
  have hc : ((W.setCell ⟨rb, 0, none⟩ (.bool true)).drew).cell? ⟨rb, 0, none⟩ = some (.bool true) := set_true hr
  have hc2 := cell_kept hc (grownBy_putObj' _ D (.deferred none)) (fun r e => by cases e; exact ⟨_, hK2, rfl⟩)
  have hB2 : Below w.heap.size w ((W.setCell ⟨rb, 0, none⟩ (.bool true)).drew) := (hB.setCell (p := ⟨rb, 0, none⟩) hle _).drew
  refine ⟨by simp, .inl ⟨_, _, rfl, run_takeDeferred hK2, ?_⟩⟩
  refine ⟨.bool true, ?_, rfl, ?_⟩
  · simp only [Array.getD_eq_getD_getElem?] at ht
    simp [results, Try.results6, go_sem, hc2, ht]
  · exact hB2.grown (grownBy_putObj' _ D (.deferred none)) hB2.size (fun k e => by cases e; exact hD)

theorem bytes_ne {a b : ByteArray} (h : ¬ a = b) : (a == b) = false := by
  rw [Bool.eq_false_iff]; exact fun e => h ((MapKept.bytes_beq _ _).1 e)

theorem prefix_snoc {l pre : List G} {x : G} (hp : pre <+: l) (hx : l[pre.length]? = some x) : pre ++ [x] <+: l := by
  obtain ⟨r, rfl⟩ := hp
  rw [List.getElem?_append_right (Nat.le_refl _), Nat.sub_self] at hx
  cases r with
  | nil => cases hx
  | cons y r => simp at hx; subst hx; exact ⟨r, by simp⟩
theorem prefix_last {l pre : List G} {x : G} (hp : pre ++ [x] <+: l) : l[pre.length]? = some x := by
  obtain ⟨r, rfl⟩ := hp
  simp

theorem Rd.limbs2 {w0 W : World} {rb nb ub tb ab gb hb : Nat} {v1 v2 : Value} {l1 l2 : List G} {x : Act8} {g h : G} (H : Rd w0 W rb nb ub tb v1 v2 l1 l2 ab gb hb x g h) :
    W.cell? ⟨tb, 0, none⟩ = some (.pointer (some ⟨ub, 0, none⟩)) ∧
    W.cell? ⟨gb, 0, none⟩ = some (.int .i64 g.c) ∧ W.cell? ⟨gb, 1, none⟩ = some (.bool g.u) ∧ W.cell? ⟨gb, 2, none⟩ = some (.int .i64 g.e) ∧ W.cell? ⟨gb, 3, none⟩ = some (.int .i64 g.s) ∧ W.cell? ⟨gb, 4, none⟩ = some (.int .i64 g.a) ∧ W.cell? ⟨gb, 5, none⟩ = some (.string g.b) ∧
    W.cell? ⟨hb, 0, none⟩ = some (.int .i64 h.c) ∧ W.cell? ⟨hb, 1, none⟩ = some (.bool h.u) ∧ W.cell? ⟨hb, 2, none⟩ = some (.int .i64 h.e) ∧ W.cell? ⟨hb, 3, none⟩ = some (.int .i64 h.s) ∧ W.cell? ⟨hb, 4, none⟩ = some (.int .i64 h.a) ∧ W.cell? ⟨hb, 5, none⟩ = some (.string h.b) := by
  obtain ⟨c0, c1, c2, c3, c4, c5⟩ := cells6 H.g
  obtain ⟨d0, d1, d2, d3, d4, d5⟩ := cells6 H.h
  exact ⟨H.two.tcell, c0, c1, c2, c3, c4, c5, d0, d1, d2, d3, d4, d5⟩

set_option maxHeartbeats 8000000 in
set_option maxRecDepth 100000 in
theorem exact_walk (w : World) (a : Option Addr) (len cap : Nat) (xs : List Act8) (hin : ActsIn w a len xs) :
    Calls Try.prog 6 #[.slice a len cap] w fun e w' => e = .returned (.bool true) ∧ Below w.heap.size w w' := by
  have hlen := hin.length
  have hsmall := hin.small
  refine (callsIn_wide (n := 4)).1 ?_
  refine callsIn_of_wp_marks Try.func6 rfl trivial ?_ rfl
  refine wpIn_wide.2 ?_
  simp only [Try.ntmps6, List.size_toArray, List.length_cons, List.length_nil, Nat.reduceAdd, Nat.reduceSub, Array.replicate_succ, Array.replicate_zero, List.push_toArray, List.append_toArray, List.nil_append, List.cons_append]
  go_wp2_with fail
  refine (awake_any _).mono ?_
  rintro e w1 ⟨rfl, hb1⟩
  have hr1 := (hb1.block w.heap.size (by simp)).trans (World.alloc_heap_new w (.cells #[.bool false] 4))
  have hb1' : Below w.heap.size w w1 := ((Below.refl _ w).alloc (Nat.le_refl _) _).trans (hb1.mono (by simp))
  have HR1 := Lib.hid hr1
  have HB1 := Lib.hid hb1'
  clear hr1 hb1' hb1
  go_wp2_with fail
  refine (new_any _).mono ?_
  rintro e w2 ⟨rfl, rfl⟩
  go_wp2_with fail
  have HS := Lib.hid (Two.start HR1.out HB1.out)
  generalize (((w1.alloc (.cells #[.slice none 0 0] 53)).alloc (.cells #[.slice none 0 0] 48)).alloc (.cells #[.pointer (some ⟨w1.heap.size + 1, 0, none⟩)] 46)) = W at *
  generalize w1.heap.size + 1 + 1 = tb at *
  generalize w1.heap.size + 1 = ub at *
  generalize w1.heap.size = nb at *
  generalize hrb : w.heap.size = rb at *
  have HRB := Lib.hid hrb
  clear hrb HB1 HR1
  go_loopw [5] (fun iv wr => ∃ (i : Nat) (v1 v2 : Value) (l : List G), iv = .int .i64 i ∧ i ≤ len ∧ i ≤ 200 ∧ Hid (Two w wr rb nb ub tb v1 v2 l l) ∧ Hid (l.length ≤ i)) (fun iv _ => 200 - (intOf iv).toNat)
  case atStart => exact ⟨0, _, _, [], rfl, by omega, by omega, HS, Nat.zero_le _⟩
  case round =>
    obtain ⟨i, v1, v2, l, rfl, hil, hi2, hs, hll⟩ := hrel
    by_cases hlt : i < len ∧ i < 200
    · obtain ⟨hlt, hlt2⟩ := hlt
      obtain ⟨x, hx⟩ : ∃ x, xs[i]? = some x := ⟨xs[i], by simp⟩
      obtain ⟨k, ⟨gc, u, ge, gs, ga, gt⟩, t⟩ := x
      obtain ⟨b, off, rfl, hbw, c0, c1, c2, c3, c4, c5, c6, c7⟩ := hin.at hs.out.below hx
      have hxok := (hin.ok _ (List.mem_of_getElem? hx)).1.1
      have HT := Lib.hid (hin.ok _ (List.mem_of_getElem? hx)).2
      dsimp only at c0 c1 c2 c3 c4 c5 c6 c7 hxok HT
      by_cases h12 : 4096 < gt.size
      · have hrc := hs.out.rcell
        have hrf := hs.out.rfree
        have hrl : rb < wr.heap.size := World.block_lt_of_cell? _ _ hrc
        go_wp2_with fail
        refine leaves_true rfl ?_ ?_
        · have hs1 := (Below.refl _ (wr.setCell ⟨rb, 0, none⟩ (.bool true))).alloc (Nat.le_refl _) (.cells #[.int .i64 k, .int .i64 gc, .bool u, .int .i64 ge, .int .i64 gs, .int .i64 ga, .string gt, .int .i64 t] 44)
          exact (hs1.cell (p := ⟨rb, 0, none⟩) (by simp [World.setCell]; exact hrl)).trans (set_true hs.out.r)
        · exact (hs.out.below.setCell (p := ⟨rb, 0, none⟩) hs.out.rle _).alloc (by have := hs.out.below.size; simp [World.setCell]; exact this) _
      · have hd2 : decide ((i : Int) < 200) = true := by simp; omega
        have hd3 : decide ((4096 : Int) < (gt.size : Int)) = false := by simp; omega
        go_upto_block 2 with fail
        have HR := Lib.hid (Rd.start (x := ⟨k, ⟨gc, u, ge, gs, ga, gt⟩, t⟩) hs.out)
        dsimp only at HR
        generalize (((wr.alloc (.cells #[.int .i64 k, .int .i64 gc, .bool u, .int .i64 ge, .int .i64 gs, .int .i64 ga, .string gt, .int .i64 t] 44)).alloc (.cells #[.int .i64 0, .bool false, .int .i64 0, .int .i64 0, .int .i64 0, .string ⟨#[]⟩] 27)).alloc (.cells #[.int .i64 0, .bool false, .int .i64 0, .int .i64 0, .int .i64 0, .string ⟨#[]⟩] 27)) = X at *
        generalize wr.heap.size + 1 + 1 = hb at *
        generalize wr.heap.size + 1 = gb at *
        generalize wr.heap.size = ab at *
        clear c0 c1 c2 c3 c4 c5 c6 c7 hs hxok
        go_cut [11, 12] from 48 to 115 (fun yv zv wx => ∃ (v1 v2 : Value) (l' : List G) (g : G) (y : Bool), yv = .bool y ∧ zv = .bool y ∧ Hid (Rd w wx rb nb ub tb v1 v2 l' l' ab gb hb ⟨k, ⟨gc, u, ge, gs, ga, gt⟩, t⟩ g g) ∧ Hid (l'.length ≤ i + 1))
        case first =>
          have hln : l.length ≤ 1000000 := Nat.le_trans hll.out (by omega)
          by_cases hk1 : k = 1
          · as_aux_lemma =>
              subst hk1
              go_upto_region 19 with fail
              go_cut [60] from 52 to 59 (fun yv wx => yv = .bool false ∧ Hid (∃ v1 v2, Rd w wx rb nb ub tb v1 v2 (putList l ⟨gc, u, ge, gs, ga, gt⟩) (putList l ⟨gc, u, ge, gs, ga, gt⟩) ab gb hb ⟨1, ⟨gc, u, ge, gs, ga, gt⟩, t⟩ G.zero G.zero))
              case first =>
                have H0 : Hid (Rd w X.drew rb nb ub tb v1 v2 l l ab gb hb ⟨1, ⟨gc, u, ge, gs, ga, gt⟩, t⟩ G.zero G.zero) := HR.out.step (Below.refl _ _).drew
                go_region_held3 (fun W => W.cell? ⟨tb, 0, none⟩ = some (.pointer (some ⟨ub, 0, none⟩)) ∧ W.cell? ⟨ab, 1, none⟩ = some (.int .i64 gc) ∧ W.cell? ⟨ab, 2, none⟩ = some (.bool u) ∧ W.cell? ⟨ab, 3, none⟩ = some (.int .i64 ge) ∧ W.cell? ⟨ab, 4, none⟩ = some (.int .i64 gs) ∧ W.cell? ⟨ab, 5, none⟩ = some (.int .i64 ga) ∧ W.cell? ⟨ab, 6, none⟩ = some (.string gt))
                  (first | with_reducible exact HR.out.limbs | with_reducible exact H0.out.limbs | with_reducible exact HC.out.limbs | with_reducible exact HA.out.limbs | with_reducible exact HB.out.limbs | go_keep)
                  (first | (go_at_call 9; refine (put_any _ _ _ l ⟨gc, u, ge, gs, ga, gt⟩ _ (by first | with_reducible exact HB.out.two.n | with_reducible exact H0.out.two.n) hln).mono ?_; rintro e w4 ⟨rfl, hp⟩; (first | (obtain ⟨v4, hk4⟩ := HB.out.net hp; have HC := Lib.hid hk4; clear hp hk4) | (obtain ⟨v4, hk4⟩ := H0.out.net hp; have HA := Lib.hid hk4; clear hp hk4))) | (go_at_call 16; refine (rput_any _ _ _ l ⟨gc, u, ge, gs, ga, gt⟩ _ (by first | with_reducible exact HA.out.two.u | with_reducible exact H0.out.two.u) hln).mono ?_; rintro e w5 ⟨rfl, hp⟩; (first | (obtain ⟨v5, hk5⟩ := HA.out.ref hp; have HC := Lib.hid hk5; clear hp hk5) | (obtain ⟨v5, hk5⟩ := H0.out.ref hp; have HB := Lib.hid hk5; clear hp hk5))))
                all_goals
                  go_wp2_with fail
                  go_meet
                  case rel => exact ⟨by simp, _, _, HC.out⟩
              case rest =>
                obtain ⟨rfl, v3, v4, HC⟩ := hcut
                go_wp2_with fail
                go_meet
                case rel => exact ⟨_, _, _, G.zero, true, rfl, rfl, HC, Nat.le_trans (putList_len _ _) (Nat.succ_le_succ hll.out)⟩
          by_cases hk2 : k = 2
          · subst hk2
            clear hk1
            obtain ⟨_, _, _, _, _, _, _, e7⟩ := cells8 HR.out.a
            dsimp only at e7
            go_wp2_with fail
            refine (pick_any _ _ _ l gc u t _ HT.out.1 HT.out.2 HR.out.two.n hln).mono ?_
            intro e w4 hpp
            obtain ⟨x4, y4, hx4, hy4, rfl, hp⟩ := pullpost_ret hpp
            clear hpp e7
            obtain ⟨v4, hk⟩ := HR.out.net hp
            obtain ⟨q0, q1, q2, q3, q4, q5⟩ := cells6 hk.g
            have qf : ∀ o, w4.frozen? ⟨gb, o, none⟩ = false := fun o => frozen_at hk.g
            have ql : gb < w4.heap.size := (Array.getElem?_eq_some_iff.1 hk.g).1
            have HK := Lib.hid (hk.setg x4)
            have HX4 := Lib.hid hx4
            have HY4 := Lib.hid hy4
            clear hx4 hy4 hp hk
            go_upto_region 23 with fail
            replace HK : Hid (Rd w ((((((w4.setCell ⟨gb, 0, none⟩ (.int .i64 x4.c)).setCell ⟨gb, 1, none⟩ (.bool x4.u)).setCell ⟨gb, 2, none⟩ (.int .i64 x4.e)).setCell ⟨gb, 3, none⟩ (.int .i64 x4.s)).setCell ⟨gb, 4, none⟩ (.int .i64 x4.a)).setCell ⟨gb, 5, none⟩ (.string x4.b)) rb nb ub tb v4 v2 (pullL l (plOf l gc u t)) l ab gb hb ⟨2, ⟨gc, u, ge, gs, ga, gt⟩, t⟩ x4 G.zero) := HK
            generalize ((((((w4.setCell ⟨gb, 0, none⟩ (.int .i64 x4.c)).setCell ⟨gb, 1, none⟩ (.bool x4.u)).setCell ⟨gb, 2, none⟩ (.int .i64 x4.e)).setCell ⟨gb, 3, none⟩ (.int .i64 x4.s)).setCell ⟨gb, 4, none⟩ (.int .i64 x4.a)).setCell ⟨gb, 5, none⟩ (.string x4.b)) = W5 at *
            clear q0 q1 q2 q3 q4 q5 qf ql
            obtain ⟨_, _, _, _, _, _, _, e7⟩ := cells8 HK.out.a
            dsimp only at e7
            have et := HK.out.two.tcell
            go_wp2_with fail
            refine (rpick_any _ _ _ l gc u t _ HK.out.two.u hln).mono ?_
            rintro e w6 ⟨x6, y6, hx6, hy6, rfl, hp⟩
            clear e7 et
            have EX : Hid (x4 = x6) := HX4.out.trans hx6.symm
            have EY : Hid (y4 = y6) := HY4.out.trans hy6.symm
            obtain ⟨v6, hk⟩ := HK.out.ref hp
            obtain ⟨q0, q1, q2, q3, q4, q5⟩ := cells6 hk.h
            have qf : ∀ o, w6.frozen? ⟨hb, o, none⟩ = false := fun o => frozen_at hk.h
            have ql : hb < w6.heap.size := (Array.getElem?_eq_some_iff.1 hk.h).1
            have HZ := Lib.hid (hk.seth x6)
            clear hx6 hy6 hp hk HK
            go_wp2_with fail
            go_meet
            case rel => exact ⟨_, _, _, x6, y6, congrArg Value.bool EY.out, rfl, EX.out ▸ HZ.out, Nat.le_trans (pullL_len _ _) (Nat.le_succ_of_le hll.out)⟩
          by_cases hk3 : k = 3
          · as_aux_lemma =>
              subst hk3
              clear hk1 hk2
              obtain ⟨_, _, _, _, _, _, _, e7⟩ := cells8 HR.out.a
              dsimp only at e7
              go_wp2_with fail
              refine (copy_any _ _ _ l gc u t _ HT.out.1 HT.out.2 HR.out.two.n hln).mono ?_
              rintro e w4 ⟨rfl, hp⟩
              clear e7
              obtain ⟨v4, hk⟩ := HR.out.net hp
              have HK := Lib.hid hk
              clear hp hk
              obtain ⟨_, _, _, _, _, _, _, e7⟩ := cells8 HK.out.a
              dsimp only at e7
              have et := HK.out.two.tcell
              go_wp2_with fail
              refine (rcopy_any _ _ _ l gc u t _ HK.out.two.u hln).mono ?_
              rintro e w6 ⟨rfl, hp⟩
              clear e7 et
              obtain ⟨v6, hk⟩ := HK.out.ref hp
              have HZ := Lib.hid hk
              clear hp hk HK
              go_wp2_with fail
              go_meet
              case rel => exact ⟨_, _, _, G.zero, _, rfl, rfl, HZ.out, Nat.le_trans (copyL_len _ _ _ _) (Nat.succ_le_succ hll.out)⟩
          by_cases hk4 : k = 4
          · subst hk4
            clear hk1 hk2 hk3
            obtain ⟨_, _, _, _, _, _, _, e7⟩ := cells8 HR.out.a
            dsimp only at e7
            go_wp2_with fail
            refine (eldest_any _ _ _ l _ HR.out.two.n).mono ?_
            intro e w4 hpp
            obtain ⟨x4, y4, hx4, hy4, rfl, hp⟩ := pullpost_ret hpp
            clear hpp e7
            obtain ⟨v4, hk⟩ := HR.out.net hp
            obtain ⟨q0, q1, q2, q3, q4, q5⟩ := cells6 hk.g
            have qf : ∀ o, w4.frozen? ⟨gb, o, none⟩ = false := fun o => frozen_at hk.g
            have ql : gb < w4.heap.size := (Array.getElem?_eq_some_iff.1 hk.g).1
            have HK := Lib.hid (hk.setg x4)
            have HX4 := Lib.hid hx4
            have HY4 := Lib.hid hy4
            clear hx4 hy4 hp hk
            go_upto_region 29 with fail
            replace HK : Hid (Rd w ((((((w4.setCell ⟨gb, 0, none⟩ (.int .i64 x4.c)).setCell ⟨gb, 1, none⟩ (.bool x4.u)).setCell ⟨gb, 2, none⟩ (.int .i64 x4.e)).setCell ⟨gb, 3, none⟩ (.int .i64 x4.s)).setCell ⟨gb, 4, none⟩ (.int .i64 x4.a)).setCell ⟨gb, 5, none⟩ (.string x4.b)) rb nb ub tb v4 v2 (pullL l 0) l ab gb hb ⟨4, ⟨gc, u, ge, gs, ga, gt⟩, t⟩ x4 G.zero) := HK
            generalize ((((((w4.setCell ⟨gb, 0, none⟩ (.int .i64 x4.c)).setCell ⟨gb, 1, none⟩ (.bool x4.u)).setCell ⟨gb, 2, none⟩ (.int .i64 x4.e)).setCell ⟨gb, 3, none⟩ (.int .i64 x4.s)).setCell ⟨gb, 4, none⟩ (.int .i64 x4.a)).setCell ⟨gb, 5, none⟩ (.string x4.b)) = W5 at *
            clear q0 q1 q2 q3 q4 q5 qf ql
            obtain ⟨_, _, _, _, _, _, _, e7⟩ := cells8 HK.out.a
            dsimp only at e7
            have et := HK.out.two.tcell
            go_wp2_with fail
            refine (reldest_any _ _ _ l _ HK.out.two.u hln).mono ?_
            rintro e w6 ⟨x6, y6, hx6, hy6, rfl, hp⟩
            clear e7 et
            have EX : Hid (x4 = x6) := HX4.out.trans hx6.symm
            have EY : Hid (y4 = y6) := HY4.out.trans hy6.symm
            obtain ⟨v6, hk⟩ := HK.out.ref hp
            obtain ⟨q0, q1, q2, q3, q4, q5⟩ := cells6 hk.h
            have qf : ∀ o, w6.frozen? ⟨hb, o, none⟩ = false := fun o => frozen_at hk.h
            have ql : hb < w6.heap.size := (Array.getElem?_eq_some_iff.1 hk.h).1
            have HZ := Lib.hid (hk.seth x6)
            clear hx6 hy6 hp hk HK
            go_wp2_with fail
            go_meet
            case rel => exact ⟨_, _, _, x6, y6, congrArg Value.bool EY.out, rfl, EX.out ▸ HZ.out, Nat.le_trans (pullL_len _ _) (Nat.le_succ_of_le hll.out)⟩
          by_cases hk5 : k = 5
          · as_aux_lemma =>
              subst hk5
              clear hk1 hk2 hk3 hk4
              go_upto_region 31 with fail
              go_cut [115] from 109 to 114 (fun yv wx => yv = .bool false ∧ Hid (∃ v1 v2, Rd w wx rb nb ub tb v1 v2 (l.filter (notOf gc)) (l.filter (notOf gc)) ab gb hb ⟨5, ⟨gc, u, ge, gs, ga, gt⟩, t⟩ G.zero G.zero))
              case first =>
                have H0 : Hid (Rd w X.drew rb nb ub tb v1 v2 l l ab gb hb ⟨5, ⟨gc, u, ge, gs, ga, gt⟩, t⟩ G.zero G.zero) := HR.out.step (Below.refl _ _).drew
                go_region_held3 (fun W => W.cell? ⟨tb, 0, none⟩ = some (.pointer (some ⟨ub, 0, none⟩)))
                  (first | with_reducible exact HR.out.two.tcell | with_reducible exact H0.out.two.tcell | with_reducible exact HC.out.two.tcell | with_reducible exact HA.out.two.tcell | with_reducible exact HB.out.two.tcell | go_keep)
                  (first | (go_at_call 14; refine (clear_any _ _ _ l gc _ (by first | with_reducible exact HB.out.two.n | with_reducible exact H0.out.two.n)).mono ?_; rintro e w4 ⟨rfl, hp⟩; (first | (obtain ⟨v4, hk4⟩ := HB.out.net hp; have HC := Lib.hid hk4; clear hp hk4) | (obtain ⟨v4, hk4⟩ := H0.out.net hp; have HA := Lib.hid hk4; clear hp hk4))) | (go_at_call 20; refine (rclear_any _ _ _ l gc _ (by first | with_reducible exact HA.out.two.u | with_reducible exact H0.out.two.u) hln).mono ?_; rintro e w5 ⟨rfl, hp⟩; (first | (obtain ⟨v5, hk5⟩ := HA.out.ref hp; have HC := Lib.hid hk5; clear hp hk5) | (obtain ⟨v5, hk5⟩ := H0.out.ref hp; have HB := Lib.hid hk5; clear hp hk5))))
                all_goals
                  go_wp2_with fail
                  go_meet
                  case rel => exact ⟨by simp, _, _, HC.out⟩
              case rest =>
                obtain ⟨rfl, v3, v4, HC⟩ := hcut
                go_wp2_with fail
                go_meet
                case rel => exact ⟨_, _, _, G.zero, true, rfl, rfl, HC, Nat.le_trans (List.length_filter_le _ _) (Nat.le_succ_of_le hll.out)⟩
          · have hb1 : (k == 1) = false := by simpa using hk1
            have hb2 : (k == 2) = false := by simpa using hk2
            have hb3 : (k == 3) = false := by simpa using hk3
            have hb4 : (k == 4) = false := by simpa using hk4
            have hb5 : (k == 5) = false := by simpa using hk5
            clear hk1 hk2 hk3 hk4 hk5
            go_wp2_with fail
            go_meet
            case rel => exact ⟨_, _, _, G.zero, true, rfl, rfl, HR.out, Nat.le_succ_of_le hll.out⟩
        case rest =>
          obtain ⟨v1, v2, l', ⟨xc, xu, xe, xs, xa, xb⟩, y, rfl, rfl, HR2, HL2⟩ := hcut
          have hln : l'.length ≤ 1000000 := Nat.le_trans HL2.out (by omega)
          clear HR
          go_upto_region 33 with fail
          go_cut [134] from 116 to 133 (fun bv wx => bv = .bool false ∧ Hid (Rd w wx rb nb ub tb v1 v2 l' l' ab gb hb ⟨k, ⟨gc, u, ge, gs, ga, gt⟩, t⟩ ⟨xc, xu, xe, xs, xa, xb⟩ ⟨xc, xu, xe, xs, xa, xb⟩))
          case first =>
            have H0 : Hid (Rd w wc.drew rb nb ub tb v1 v2 l' l' ab gb hb ⟨k, ⟨gc, u, ge, gs, ga, gt⟩, t⟩ ⟨xc, xu, xe, xs, xa, xb⟩ ⟨xc, xu, xe, xs, xa, xb⟩) := HR2.out.step (Below.refl _ _).drew
            go_region_held3 (fun W => W.cell? ⟨tb, 0, none⟩ = some (.pointer (some ⟨ub, 0, none⟩)) ∧
                W.cell? ⟨gb, 0, none⟩ = some (.int .i64 xc) ∧ W.cell? ⟨gb, 1, none⟩ = some (.bool xu) ∧ W.cell? ⟨gb, 2, none⟩ = some (.int .i64 xe) ∧ W.cell? ⟨gb, 3, none⟩ = some (.int .i64 xs) ∧ W.cell? ⟨gb, 4, none⟩ = some (.int .i64 xa) ∧ W.cell? ⟨gb, 5, none⟩ = some (.string xb) ∧
                W.cell? ⟨hb, 0, none⟩ = some (.int .i64 xc) ∧ W.cell? ⟨hb, 1, none⟩ = some (.bool xu) ∧ W.cell? ⟨hb, 2, none⟩ = some (.int .i64 xe) ∧ W.cell? ⟨hb, 3, none⟩ = some (.int .i64 xs) ∧ W.cell? ⟨hb, 4, none⟩ = some (.int .i64 xa) ∧ W.cell? ⟨hb, 5, none⟩ = some (.string xb))
              (first | with_reducible exact HR2.out.limbs2 | with_reducible exact H0.out.limbs2 | with_reducible exact HA.out.limbs2 | go_keep)
              (first | (go_at_call 13; refine (count_any _ _ _ l' gc u _ H0.out.two.n hln).mono ?_; rintro e w4 ⟨rfl, hb4⟩; have HA := Lib.hid (H0.out.step hb4); clear hb4) | (go_at_call 21; refine (rcount_any _ _ _ l' gc u _ (by first | with_reducible exact HA.out.two.u | with_reducible exact H0.out.two.u) hln).mono ?_; rintro e w5 ⟨rfl, rfl⟩))
            all_goals
              go_wp2_with fail
              go_meet
              case rel => exact ⟨by simp, HA.out⟩
          case rest =>
            obtain ⟨rfl, HF⟩ := hcut
            clear HR2
            go_wp2
            go_roundw
            case rel => exact ⟨i + 1, _, _, l', by simp, by omega, by omega, HF.out.two, HL2⟩
            case measure => simp [intOf]; omega
    · have hcs : (i < len ∧ 200 ≤ i) ∨ len ≤ i := by omega
      clear hlt
      have hln : l.length ≤ 1000000 := Nat.le_trans hll.out (by omega)
      have hfn := fun W B => run_eql_func_nil W B
      rcases hcs with ⟨hq1, hq2⟩ | hq1
      · go_wp2_with fail
        refine (all_in nb _).mono ?_
        rintro e w' ⟨rfl, rfl⟩
        go_wp2_with fail
        refine (wpIn_wide (n := 4)).1 ?_
        have hS2 : Two w ((wr.alloc (.cells #[.pointer (some ⟨nb, 0, none⟩)] 24)).alloc (.cells #[.int .i64 0] 3)) rb nb ub tb v1 v2 l l := hs.out.step (((Below.refl _ _).alloc (Nat.le_refl _) _).alloc (by simp) _)
        have hcb : ((wr.alloc (.cells #[.pointer (some ⟨nb, 0, none⟩)] 24)).alloc (.cells #[.int .i64 0] 3)).cell? ⟨wr.heap.size, 0, none⟩ = some (.pointer (some ⟨nb, 0, none⟩)) := ((Boxed.new wr 24 (.pointer (some ⟨nb, 0, none⟩))).alloc (.cells #[.int .i64 0] 3)).cell
        have hkb : Boxed ((wr.alloc (.cells #[.pointer (some ⟨nb, 0, none⟩)] 24)).alloc (.cells #[.int .i64 0] 3)) (wr.heap.size + 1) 3 (.int .i64 0) := by
          have h := Boxed.new (wr.alloc (.cells #[.pointer (some ⟨nb, 0, none⟩)] 24)) 3 (.int .i64 0)
          rwa [World.size_alloc] at h
        have hwz : w.heap.size ≤ wr.heap.size := hs.out.below.size
        have hk2 : wr.heap.size + 1 < ((wr.alloc (.cells #[.pointer (some ⟨nb, 0, none⟩)] 24)).alloc (.cells #[.int .i64 0] 3)).heap.size := by simp
        have hkl : w.heap.size ≤ wr.heap.size + 1 := by omega
        generalize (wr.alloc (.cells #[.pointer (some ⟨nb, 0, none⟩)] 24)).alloc (.cells #[.int .i64 0] 3) = W1 at *
        generalize wr.heap.size + 1 = kb at *
        generalize wr.heap.size = cb at *
        have hws : w.heap.size ≤ W1.heap.size := by omega
        refine wpIn_rangeFunc_ownH rfl (by decide) (gf := 31) (lb := #[.pointer (some ⟨cb, 0, none⟩)]) rfl trivial (enters_of Try.func31 (by kernel_rfl) rfl)
          (all_stops 3 cb w.heap.size nb kb v1 l W1 hk2 hln hcb hS2.n) (fun h k => h.trans k) (fun W l o o' h1 h2 h3 h4 => keepsCells_b W l o o' h1 h2 h3 h4) (Below.refl _ _) (fun _ => rfl)
          (fun pre W => Two w W rb nb ub tb v1 v2 l l ∧ Boxed W kb 3 (.int .i64 (pre.length : Int)) ∧ pre <+: l) (fun _ pre _ => ¬ pre <+: l)
          (fun pre A B row hsx hg hr => ⟨hsx.1.own hws hg hr, boxed_own' hsx.2.1 hg hr, hsx.2.2⟩) (fun _ _ _ _ _ hsx _ _ => hsx) ⟨hS2, hkb, List.nil_prefix⟩
          (fun x a' W => ∃ Bx, W.heap[Bx]? = some (.cells x.cells.toArray 27 (0, 0)) ∧ a' = { tmps := #[.slice a len cap, undef, .pointer (some ⟨rb, 0, none⟩), .pointer (some ⟨nb, 0, none⟩), .pointer (some ⟨tb, 0, none⟩), .int .i64 (i : Int), u6, u7, u8, u9, u10, u11, u12, .func (.func 31) #[] #[.pointer (some ⟨cb, 0, none⟩)], .pointer (some ⟨kb, 0, none⟩), .pointer (some ⟨Bx, 0, none⟩), .bool true, .bool false, .pointer (some ⟨nb, 0, none⟩), .agg #[.slice none 0 0], .pointer (some ⟨ub, 0, none⟩), .int .i64 (i : Int), .slice a len cap, .int .i64 (len : Int), .bool true, .bool true, .int .i64 (i : Int), .bool (decide ((i : Int) < 200)), .bool (decide ((i : Int) < 200)), u29, u30, u31, u32, u33, u34, u35, u36, u37, u38, u39, u40, u41, u42, u43, u44, u45, u46, u47, u48, u49, u50, u51, u52, u53, u54, u55, u56, u57, u58, u59, u60, u61, u62, u63, u64, u65, u66, u67, u68, u69, u70, u71, u72, u73, u74, u75, u76, u77, u78, u79, u80, u81, u82, u83, u84, u85, u86, u87, u88, u89, u90, u91, u92, u93, u94, u95, u96, u97, u98, u99, u100, u101, u102, u103, u104, u105, u106, u107, u108, u109, u110, u111, u112, u113, u114, u115, u116, u117, u118, u119, u120, u121, u122, u123, u124, u125, u126, u127, u128, u129, u130, u131, u132, u133, u134, .pointer (some ⟨nb, 0, none⟩), .func (.func 31) #[] #[.pointer (some ⟨cb, 0, none⟩)], .func (.func 31) #[] #[.pointer (some ⟨cb, 0, none⟩)], .bool false, .func (.func 31) #[] #[.pointer (some ⟨cb, 0, none⟩)], .agg #[.int .i64 x.c, .bool x.u, .int .i64 x.e, .int .i64 x.s, .int .i64 x.a, .string x.b], undef, undef, undef, undef, undef, undef, undef, undef, undef, undef, undef, undef, undef, undef, undef, undef, undef, undef, undef, undef, undef, undef, undef, undef, undef, undef, undef], defers := [] })
          ?hAx ?assign ?body ?done ?stop
        case hAx =>
          rintro x a' _ A B row ⟨Bx, hx, ha⟩ hg hr
          refine ⟨Bx, ?_, ha⟩
          rw [hg.block Bx (Array.getElem?_eq_some_iff.1 hx).1 (fun e => by obtain ⟨_, o, ho, hc⟩ := hr _ e.symm; rw [hx] at ho; cases ho; cases hc)]
          exact hx
        case assign =>
          rintro ln pre ⟨xc, xu, xe, xs, xa, xb⟩ W K ⟨hT, hk, hp⟩ hK
          have HT2 := Lib.hid hT
          have HK2 := Lib.hid hk
          clear hT hk
          gi_wp2
          exact hK _ _ ((KeepsOthers.alloc _ _).from _) (KeepsCells.below ((Below.refl _ _).alloc (Nat.le_refl _) _)) ⟨HT2.out.step ((Below.refl _ _).alloc (Nat.le_refl _) _), HK2.out.alloc _, hp⟩ ⟨_, World.alloc_heap_new W _, rfl⟩
        case body =>
          rintro ln pre ⟨xc, xu, xe, xs, xa, xb⟩ a' W hln hr ⟨hT, hk, hp⟩ ⟨Bx, hX, rfl⟩ hlt
          obtain ⟨y, hy⟩ : ∃ y, l[pre.length]? = some y := ⟨l[pre.length], by simp⟩
          obtain ⟨A2, c2, rfl, hA2, hc1, hc2⟩ := row_shape hT.u.row
          obtain ⟨g2, rfl⟩ := hA2 (by omega)
          unfold maxLen at hc2
          have kc := hk.cell
          have kf := hk.frozen
          have kl : kb < W.heap.size := hk.lt
          have tc := hT.tcell
          have uc := hT.u.cell
          obtain ⟨d0, d1, d2, d3, d4, d5⟩ := row_cells hT.u.row hy
          obtain ⟨x0, x1, x2, x3, x4, x5⟩ := cells6 hX
          have rc := hT.rcell
          have rf := hT.rfree
          have HT2 := Lib.hid hT
          have HK2 := Lib.hid hk
          have HY := Lib.hid hy
          have HP := Lib.hid hp
          obtain ⟨m, hm⟩ : ∃ m, m = pre.length := ⟨_, rfl⟩
          rw [← hm] at kc d0 d1 d2 d3 d4 d5 hlt
          have HM := Lib.hid hm
          have hn : Hid (∃ n, n = l.length) := ⟨_, rfl⟩
          dsimp only at x0 x1 x2 x3 x4 x5
          obtain ⟨yc, yu, ye, ys, ya, yb⟩ := y
          dsimp only at d0 d1 d2 d3 d4 d5
          clear hT hk hy hX hp hm hr hA2 hs hcb hkb
          have hge : decide ((l.length : Int) ≤ (m : Int)) = false := by simp; omega
          have hge2 : decide (l.length ≤ m) = false := by simp; omega
          by_cases ec : ¬ yc = xc
          · have HE : Hid (¬ yc = xc) := ec
            have hb : (yc == xc) = false := by simpa using ec
            clear ec
            gi_wp2
            refine region_quiet_round ?_ (by kernel_rfl) (by kernel_rfl) ?_
            · rfl
            repeat (gi_big_quiet_step (fail))
            refine wpQuietIn_nil ?_
            rintro _ ⟨nq, rfl⟩
            gi_wp2
            refine ⟨((show KeepsOthers W (W.drewN nq) from ⟨Nat.le_refl _, fun _ _ h _ => h⟩).trans (KeepsOthers.setCell _ _ _)).from _, fun hq => ?_⟩
            have h1 := prefix_last hq
            rw [HY.out] at h1
            simp at h1
            exact absurd h1 (by simp [HE.out])
          obtain rfl := Classical.not_not.1 ec
          by_cases eu : ¬ yu = xu
          · have HE : Hid (¬ yu = xu) := eu
            have hb : (yu == xu) = false := by simpa using eu
            clear eu
            gi_wp2
            refine region_quiet_round ?_ (by kernel_rfl) (by kernel_rfl) ?_
            · rfl
            repeat (gi_big_quiet_step (fail))
            refine wpQuietIn_nil ?_
            rintro _ ⟨nq, rfl⟩
            gi_wp2
            refine ⟨((show KeepsOthers W (W.drewN nq) from ⟨Nat.le_refl _, fun _ _ h _ => h⟩).trans (KeepsOthers.setCell _ _ _)).from _, fun hq => ?_⟩
            have h1 := prefix_last hq
            rw [HY.out] at h1
            simp at h1
            exact absurd h1 (by simp [HE.out])
          obtain rfl := Classical.not_not.1 eu
          by_cases ee : ¬ ye = xe
          · have HE : Hid (¬ ye = xe) := ee
            have hb : (ye == xe) = false := by simpa using ee
            clear ee
            gi_wp2
            refine region_quiet_round ?_ (by kernel_rfl) (by kernel_rfl) ?_
            · rfl
            repeat (gi_big_quiet_step (fail))
            refine wpQuietIn_nil ?_
            rintro _ ⟨nq, rfl⟩
            gi_wp2
            refine ⟨((show KeepsOthers W (W.drewN nq) from ⟨Nat.le_refl _, fun _ _ h _ => h⟩).trans (KeepsOthers.setCell _ _ _)).from _, fun hq => ?_⟩
            have h1 := prefix_last hq
            rw [HY.out] at h1
            simp at h1
            exact absurd h1 (by simp [HE.out])
          obtain rfl := Classical.not_not.1 ee
          by_cases es : ¬ ys = xs
          · have HE : Hid (¬ ys = xs) := es
            have hb : (ys == xs) = false := by simpa using es
            clear es
            gi_wp2
            refine region_quiet_round ?_ (by kernel_rfl) (by kernel_rfl) ?_
            · rfl
            repeat (gi_big_quiet_step (fail))
            refine wpQuietIn_nil ?_
            rintro _ ⟨nq, rfl⟩
            gi_wp2
            refine ⟨((show KeepsOthers W (W.drewN nq) from ⟨Nat.le_refl _, fun _ _ h _ => h⟩).trans (KeepsOthers.setCell _ _ _)).from _, fun hq => ?_⟩
            have h1 := prefix_last hq
            rw [HY.out] at h1
            simp at h1
            exact absurd h1 (by simp [HE.out])
          obtain rfl := Classical.not_not.1 es
          by_cases ea : ¬ ya = xa
          · have HE : Hid (¬ ya = xa) := ea
            have hb : (ya == xa) = false := by simpa using ea
            clear ea
            gi_wp2
            refine region_quiet_round ?_ (by kernel_rfl) (by kernel_rfl) ?_
            · rfl
            repeat (gi_big_quiet_step (fail))
            refine wpQuietIn_nil ?_
            rintro _ ⟨nq, rfl⟩
            gi_wp2
            refine ⟨((show KeepsOthers W (W.drewN nq) from ⟨Nat.le_refl _, fun _ _ h _ => h⟩).trans (KeepsOthers.setCell _ _ _)).from _, fun hq => ?_⟩
            have h1 := prefix_last hq
            rw [HY.out] at h1
            simp at h1
            exact absurd h1 (by simp [HE.out])
          obtain rfl := Classical.not_not.1 ea
          by_cases eb : ¬ yb = xb
          · have HE : Hid (¬ yb = xb) := eb
            have hb : (yb == xb) = false := bytes_ne eb
            have hb2 : (yb.toList == xb.toList) = false := by rw [← beq_toListBytes]; exact bytes_ne eb
            clear eb
            gi_wp2
            refine region_quiet_round ?_ (by kernel_rfl) (by kernel_rfl) ?_
            · rfl
            repeat (gi_big_quiet_step (fail))
            refine wpQuietIn_nil ?_
            rintro _ ⟨nq, rfl⟩
            gi_wp2
            refine ⟨((show KeepsOthers W (W.drewN nq) from ⟨Nat.le_refl _, fun _ _ h _ => h⟩).trans (KeepsOthers.setCell _ _ _)).from _, fun hq => ?_⟩
            have h1 := prefix_last hq
            rw [HY.out] at h1
            simp at h1
            exact absurd h1 (by simp [HE.out])
          obtain rfl := Classical.not_not.1 eb
          gi_wp2
          refine region_quiet_round ?_ (by kernel_rfl) (by kernel_rfl) ?_
          · rfl
          repeat (gi_big_quiet_step (fail))
          refine wpQuietIn_nil ?_
          rintro _ ⟨nq, rfl⟩
          gi_wp2
          have hq : KeepsCells kb (W.drewN nq) ((W.drewN nq).setCell ⟨kb, 0, none⟩ (.int .i64 ((m : Int) + 1))) := keepsCells_set kb _ _
          have hbw : Below W.heap.size W (W.drewN nq) := ⟨rfl, rfl, rfl, Nat.le_refl _, fun _ _ => rfl⟩
          have hkq : Boxed (W.drewN nq) kb 3 (.int .i64 (pre.length : Int)) := HK2.out
          refine ⟨((show KeepsOthers W (W.drewN nq) from ⟨Nat.le_refl _, fun _ _ h _ => h⟩).trans (KeepsOthers.setCell _ _ _)).from _, ⟨hq.size, hq.keep⟩, (HT2.out.step hbw).kset hkq hkl _, ?_, prefix_snoc HP.out HY.out⟩
          have h := hkq.set (.int .i64 ((m : Int) + 1))
          rw [List.length_append, List.length_singleton, ← HM.out]
          exact h
        case done =>
          rintro D zs W hD rfl ⟨hT, hk, _⟩ hK
          obtain ⟨A2, c2, rfl, hA2, hc1, hc2⟩ := row_shape hT.u.row
          unfold maxLen at hc2
          have kc := hk.cell
          have tc := hT.tcell
          have uc := hT.u.cell
          have rc := hT.rcell
          have rf := hT.rfree
          have rl : rb < W.heap.size := World.block_lt_of_cell? _ _ rc
          have HT2 := Lib.hid hT
          have HKD := Lib.hid hK
          clear hT hk hK hs hcb hkb hA2
          go_wp2_with fail
          go_region
          all_goals
            go_wp2_with fail
            exact leaves_mark rfl HT2.out.r HT2.out.rle HT2.out.below (by omega) HKD.out
        case stop =>
          rintro D c pre W _ hpre hn _
          exact absurd hpre hn
      · go_wp2_with fail
        refine (all_in nb _).mono ?_
        rintro e w' ⟨rfl, rfl⟩
        go_wp2_with fail
        refine (wpIn_wide (n := 4)).1 ?_
        have hS2 : Two w ((wr.alloc (.cells #[.pointer (some ⟨nb, 0, none⟩)] 24)).alloc (.cells #[.int .i64 0] 3)) rb nb ub tb v1 v2 l l := hs.out.step (((Below.refl _ _).alloc (Nat.le_refl _) _).alloc (by simp) _)
        have hcb : ((wr.alloc (.cells #[.pointer (some ⟨nb, 0, none⟩)] 24)).alloc (.cells #[.int .i64 0] 3)).cell? ⟨wr.heap.size, 0, none⟩ = some (.pointer (some ⟨nb, 0, none⟩)) := ((Boxed.new wr 24 (.pointer (some ⟨nb, 0, none⟩))).alloc (.cells #[.int .i64 0] 3)).cell
        have hkb : Boxed ((wr.alloc (.cells #[.pointer (some ⟨nb, 0, none⟩)] 24)).alloc (.cells #[.int .i64 0] 3)) (wr.heap.size + 1) 3 (.int .i64 0) := by
          have h := Boxed.new (wr.alloc (.cells #[.pointer (some ⟨nb, 0, none⟩)] 24)) 3 (.int .i64 0)
          rwa [World.size_alloc] at h
        have hwz : w.heap.size ≤ wr.heap.size := hs.out.below.size
        have hk2 : wr.heap.size + 1 < ((wr.alloc (.cells #[.pointer (some ⟨nb, 0, none⟩)] 24)).alloc (.cells #[.int .i64 0] 3)).heap.size := by simp
        have hkl : w.heap.size ≤ wr.heap.size + 1 := by omega
        generalize (wr.alloc (.cells #[.pointer (some ⟨nb, 0, none⟩)] 24)).alloc (.cells #[.int .i64 0] 3) = W1 at *
        generalize wr.heap.size + 1 = kb at *
        generalize wr.heap.size = cb at *
        have hws : w.heap.size ≤ W1.heap.size := by omega
        refine wpIn_rangeFunc_ownH rfl (by decide) (gf := 31) (lb := #[.pointer (some ⟨cb, 0, none⟩)]) rfl trivial (enters_of Try.func31 (by kernel_rfl) rfl)
          (all_stops 3 cb w.heap.size nb kb v1 l W1 hk2 hln hcb hS2.n) (fun h k => h.trans k) (fun W l o o' h1 h2 h3 h4 => keepsCells_b W l o o' h1 h2 h3 h4) (Below.refl _ _) (fun _ => rfl)
          (fun pre W => Two w W rb nb ub tb v1 v2 l l ∧ Boxed W kb 3 (.int .i64 (pre.length : Int)) ∧ pre <+: l) (fun _ pre _ => ¬ pre <+: l)
          (fun pre A B row hsx hg hr => ⟨hsx.1.own hws hg hr, boxed_own' hsx.2.1 hg hr, hsx.2.2⟩) (fun _ _ _ _ _ hsx _ _ => hsx) ⟨hS2, hkb, List.nil_prefix⟩
          (fun x a' W => ∃ Bx, W.heap[Bx]? = some (.cells x.cells.toArray 27 (0, 0)) ∧ a' = { tmps := #[.slice a len cap, undef, .pointer (some ⟨rb, 0, none⟩), .pointer (some ⟨nb, 0, none⟩), .pointer (some ⟨tb, 0, none⟩), .int .i64 (i : Int), u6, u7, u8, u9, u10, u11, u12, .func (.func 31) #[] #[.pointer (some ⟨cb, 0, none⟩)], .pointer (some ⟨kb, 0, none⟩), .pointer (some ⟨Bx, 0, none⟩), .bool true, .bool false, .pointer (some ⟨nb, 0, none⟩), .agg #[.slice none 0 0], .pointer (some ⟨ub, 0, none⟩), .int .i64 (i : Int), .slice a len cap, .int .i64 (len : Int), .bool false, .bool false, undef, undef, .bool false, u29, u30, u31, u32, u33, u34, u35, u36, u37, u38, u39, u40, u41, u42, u43, u44, u45, u46, u47, u48, u49, u50, u51, u52, u53, u54, u55, u56, u57, u58, u59, u60, u61, u62, u63, u64, u65, u66, u67, u68, u69, u70, u71, u72, u73, u74, u75, u76, u77, u78, u79, u80, u81, u82, u83, u84, u85, u86, u87, u88, u89, u90, u91, u92, u93, u94, u95, u96, u97, u98, u99, u100, u101, u102, u103, u104, u105, u106, u107, u108, u109, u110, u111, u112, u113, u114, u115, u116, u117, u118, u119, u120, u121, u122, u123, u124, u125, u126, u127, u128, u129, u130, u131, u132, u133, u134, .pointer (some ⟨nb, 0, none⟩), .func (.func 31) #[] #[.pointer (some ⟨cb, 0, none⟩)], .func (.func 31) #[] #[.pointer (some ⟨cb, 0, none⟩)], .bool false, .func (.func 31) #[] #[.pointer (some ⟨cb, 0, none⟩)], .agg #[.int .i64 x.c, .bool x.u, .int .i64 x.e, .int .i64 x.s, .int .i64 x.a, .string x.b], undef, undef, undef, undef, undef, undef, undef, undef, undef, undef, undef, undef, undef, undef, undef, undef, undef, undef, undef, undef, undef, undef, undef, undef, undef, undef, undef], defers := [] })
          ?hAx ?assign ?body ?done ?stop
        case hAx =>
          rintro x a' _ A B row ⟨Bx, hx, ha⟩ hg hr
          refine ⟨Bx, ?_, ha⟩
          rw [hg.block Bx (Array.getElem?_eq_some_iff.1 hx).1 (fun e => by obtain ⟨_, o, ho, hc⟩ := hr _ e.symm; rw [hx] at ho; cases ho; cases hc)]
          exact hx
        case assign =>
          rintro ln pre ⟨xc, xu, xe, xs, xa, xb⟩ W K ⟨hT, hk, hp⟩ hK
          have HT2 := Lib.hid hT
          have HK2 := Lib.hid hk
          clear hT hk
          gi_wp2
          exact hK _ _ ((KeepsOthers.alloc _ _).from _) (KeepsCells.below ((Below.refl _ _).alloc (Nat.le_refl _) _)) ⟨HT2.out.step ((Below.refl _ _).alloc (Nat.le_refl _) _), HK2.out.alloc _, hp⟩ ⟨_, World.alloc_heap_new W _, rfl⟩
        case body =>
          rintro ln pre ⟨xc, xu, xe, xs, xa, xb⟩ a' W hln hr ⟨hT, hk, hp⟩ ⟨Bx, hX, rfl⟩ hlt
          obtain ⟨y, hy⟩ : ∃ y, l[pre.length]? = some y := ⟨l[pre.length], by simp⟩
          obtain ⟨A2, c2, rfl, hA2, hc1, hc2⟩ := row_shape hT.u.row
          obtain ⟨g2, rfl⟩ := hA2 (by omega)
          unfold maxLen at hc2
          have kc := hk.cell
          have kf := hk.frozen
          have kl : kb < W.heap.size := hk.lt
          have tc := hT.tcell
          have uc := hT.u.cell
          obtain ⟨d0, d1, d2, d3, d4, d5⟩ := row_cells hT.u.row hy
          obtain ⟨x0, x1, x2, x3, x4, x5⟩ := cells6 hX
          have rc := hT.rcell
          have rf := hT.rfree
          have HT2 := Lib.hid hT
          have HK2 := Lib.hid hk
          have HY := Lib.hid hy
          have HP := Lib.hid hp
          obtain ⟨m, hm⟩ : ∃ m, m = pre.length := ⟨_, rfl⟩
          rw [← hm] at kc d0 d1 d2 d3 d4 d5 hlt
          have HM := Lib.hid hm
          have hn : Hid (∃ n, n = l.length) := ⟨_, rfl⟩
          dsimp only at x0 x1 x2 x3 x4 x5
          obtain ⟨yc, yu, ye, ys, ya, yb⟩ := y
          dsimp only at d0 d1 d2 d3 d4 d5
          clear hT hk hy hX hp hm hr hA2 hs hcb hkb
          have hge : decide ((l.length : Int) ≤ (m : Int)) = false := by simp; omega
          have hge2 : decide (l.length ≤ m) = false := by simp; omega
          by_cases ec : ¬ yc = xc
          · have HE : Hid (¬ yc = xc) := ec
            have hb : (yc == xc) = false := by simpa using ec
            clear ec
            gi_wp2
            refine region_quiet_round ?_ (by kernel_rfl) (by kernel_rfl) ?_
            · rfl
            repeat (gi_big_quiet_step (fail))
            refine wpQuietIn_nil ?_
            rintro _ ⟨nq, rfl⟩
            gi_wp2
            refine ⟨((show KeepsOthers W (W.drewN nq) from ⟨Nat.le_refl _, fun _ _ h _ => h⟩).trans (KeepsOthers.setCell _ _ _)).from _, fun hq => ?_⟩
            have h1 := prefix_last hq
            rw [HY.out] at h1
            simp at h1
            exact absurd h1 (by simp [HE.out])
          obtain rfl := Classical.not_not.1 ec
          by_cases eu : ¬ yu = xu
          · have HE : Hid (¬ yu = xu) := eu
            have hb : (yu == xu) = false := by simpa using eu
            clear eu
            gi_wp2
            refine region_quiet_round ?_ (by kernel_rfl) (by kernel_rfl) ?_
            · rfl
            repeat (gi_big_quiet_step (fail))
            refine wpQuietIn_nil ?_
            rintro _ ⟨nq, rfl⟩
            gi_wp2
            refine ⟨((show KeepsOthers W (W.drewN nq) from ⟨Nat.le_refl _, fun _ _ h _ => h⟩).trans (KeepsOthers.setCell _ _ _)).from _, fun hq => ?_⟩
            have h1 := prefix_last hq
            rw [HY.out] at h1
            simp at h1
            exact absurd h1 (by simp [HE.out])
          obtain rfl := Classical.not_not.1 eu
          by_cases ee : ¬ ye = xe
          · have HE : Hid (¬ ye = xe) := ee
            have hb : (ye == xe) = false := by simpa using ee
            clear ee
            gi_wp2
            refine region_quiet_round ?_ (by kernel_rfl) (by kernel_rfl) ?_
            · rfl
            repeat (gi_big_quiet_step (fail))
            refine wpQuietIn_nil ?_
            rintro _ ⟨nq, rfl⟩
            gi_wp2
            refine ⟨((show KeepsOthers W (W.drewN nq) from ⟨Nat.le_refl _, fun _ _ h _ => h⟩).trans (KeepsOthers.setCell _ _ _)).from _, fun hq => ?_⟩
            have h1 := prefix_last hq
            rw [HY.out] at h1
            simp at h1
            exact absurd h1 (by simp [HE.out])
          obtain rfl := Classical.not_not.1 ee
          by_cases es : ¬ ys = xs
          · have HE : Hid (¬ ys = xs) := es
            have hb : (ys == xs) = false := by simpa using es
            clear es
            gi_wp2
            refine region_quiet_round ?_ (by kernel_rfl) (by kernel_rfl) ?_
            · rfl
            repeat (gi_big_quiet_step (fail))
            refine wpQuietIn_nil ?_
            rintro _ ⟨nq, rfl⟩
            gi_wp2
            refine ⟨((show KeepsOthers W (W.drewN nq) from ⟨Nat.le_refl _, fun _ _ h _ => h⟩).trans (KeepsOthers.setCell _ _ _)).from _, fun hq => ?_⟩
            have h1 := prefix_last hq
            rw [HY.out] at h1
            simp at h1
            exact absurd h1 (by simp [HE.out])
          obtain rfl := Classical.not_not.1 es
          by_cases ea : ¬ ya = xa
          · have HE : Hid (¬ ya = xa) := ea
            have hb : (ya == xa) = false := by simpa using ea
            clear ea
            gi_wp2
            refine region_quiet_round ?_ (by kernel_rfl) (by kernel_rfl) ?_
            · rfl
            repeat (gi_big_quiet_step (fail))
            refine wpQuietIn_nil ?_
            rintro _ ⟨nq, rfl⟩
            gi_wp2
            refine ⟨((show KeepsOthers W (W.drewN nq) from ⟨Nat.le_refl _, fun _ _ h _ => h⟩).trans (KeepsOthers.setCell _ _ _)).from _, fun hq => ?_⟩
            have h1 := prefix_last hq
            rw [HY.out] at h1
            simp at h1
            exact absurd h1 (by simp [HE.out])
          obtain rfl := Classical.not_not.1 ea
          by_cases eb : ¬ yb = xb
          · have HE : Hid (¬ yb = xb) := eb
            have hb : (yb == xb) = false := bytes_ne eb
            have hb2 : (yb.toList == xb.toList) = false := by rw [← beq_toListBytes]; exact bytes_ne eb
            clear eb
            gi_wp2
            refine region_quiet_round ?_ (by kernel_rfl) (by kernel_rfl) ?_
            · rfl
            repeat (gi_big_quiet_step (fail))
            refine wpQuietIn_nil ?_
            rintro _ ⟨nq, rfl⟩
            gi_wp2
            refine ⟨((show KeepsOthers W (W.drewN nq) from ⟨Nat.le_refl _, fun _ _ h _ => h⟩).trans (KeepsOthers.setCell _ _ _)).from _, fun hq => ?_⟩
            have h1 := prefix_last hq
            rw [HY.out] at h1
            simp at h1
            exact absurd h1 (by simp [HE.out])
          obtain rfl := Classical.not_not.1 eb
          gi_wp2
          refine region_quiet_round ?_ (by kernel_rfl) (by kernel_rfl) ?_
          · rfl
          repeat (gi_big_quiet_step (fail))
          refine wpQuietIn_nil ?_
          rintro _ ⟨nq, rfl⟩
          gi_wp2
          have hq : KeepsCells kb (W.drewN nq) ((W.drewN nq).setCell ⟨kb, 0, none⟩ (.int .i64 ((m : Int) + 1))) := keepsCells_set kb _ _
          have hbw : Below W.heap.size W (W.drewN nq) := ⟨rfl, rfl, rfl, Nat.le_refl _, fun _ _ => rfl⟩
          have hkq : Boxed (W.drewN nq) kb 3 (.int .i64 (pre.length : Int)) := HK2.out
          refine ⟨((show KeepsOthers W (W.drewN nq) from ⟨Nat.le_refl _, fun _ _ h _ => h⟩).trans (KeepsOthers.setCell _ _ _)).from _, ⟨hq.size, hq.keep⟩, (HT2.out.step hbw).kset hkq hkl _, ?_, prefix_snoc HP.out HY.out⟩
          have h := hkq.set (.int .i64 ((m : Int) + 1))
          rw [List.length_append, List.length_singleton, ← HM.out]
          exact h
        case done =>
          rintro D zs W hD rfl ⟨hT, hk, _⟩ hK
          obtain ⟨A2, c2, rfl, hA2, hc1, hc2⟩ := row_shape hT.u.row
          unfold maxLen at hc2
          have kc := hk.cell
          have tc := hT.tcell
          have uc := hT.u.cell
          have rc := hT.rcell
          have rf := hT.rfree
          have rl : rb < W.heap.size := World.block_lt_of_cell? _ _ rc
          have HT2 := Lib.hid hT
          have HKD := Lib.hid hK
          clear hT hk hK hs hcb hkb hA2
          go_wp2_with fail
          go_region
          all_goals
            go_wp2_with fail
            exact leaves_mark rfl HT2.out.r HT2.out.rle HT2.out.below (by omega) HKD.out
        case stop =>
          rintro D c pre W _ hpre hn _
          exact absurd hpre hn
end Go.Proofs.Ytgfklingekiflaa
