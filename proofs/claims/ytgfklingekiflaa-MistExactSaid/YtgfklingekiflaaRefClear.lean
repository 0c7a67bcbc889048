/- The walk of the reference's Clear. -/
import Derived.Test.YtgfklingekiflaaRefPick
namespace Go.Proofs.Ytgfklingekiflaa
open Go.RowKit Go.Shelf
set_option linter.unusedSimpArgs false
set_option linter.unusedVariables false

def RClearPost (base : Nat) (w : World) (b : Nat) (v : Value) (l : List G) (c : Int) (e : Ending) (w' : World) : Prop :=
  e = .returned (.int .i64 (clearN l c)) ∧ RPost base w b v (l.filter (notOf c)) w'

theorem one_cells (w : World) (x : G) : ∀ (j : Nat) (y : Value), (rows [x])[j]? = some y → (w.alloc (Obj.cells #[.int .i64 x.c, .bool x.u, .int .i64 x.e, .int .i64 x.s, .int .i64 x.a, .string x.b] 27)).cell? ((⟨w.heap.size, 0, none⟩ : Addr).add j) = some y := fun j y hy => by
  have ha : (⟨w.heap.size, 0, none⟩ : Addr).add j = ⟨w.heap.size, j, none⟩ := by unfold Addr.add; split <;> simp_all
  rw [ha, cell_of_row _ w.heap.size j _ 27 (0, 0) (World.alloc_heap_new w _)]
  simpa [rows, G.cells] using hy

theorem rclear_close {base b : Nat} {w w2 : World} {v v2 : Value} {l l' : List G} (hN : RAt base w b v l) (hB : Below w.heap.size w w2) (hO : w2.ownsRow w.heap.size 27 6 v2 l'.length (rows l')) : RPost base w b v l' (w2.setCell ⟨b, 0, none⟩ v2) := by
  have hlt := hN.lt
  have hv2 : ∀ j, v2.ownBlock = some j → w.heap.size ≤ j := fun j hj => (hO.lt j hj).1
  refine ⟨v2, ⟨hN.le, ?_, ?_⟩, ⟨?_, ?_, ?_, ?_, ?_⟩, .inr hv2⟩
  · have hb3 : Boxed w2 b 48 v := (hB.block b hlt).trans hN.box
    exact hb3.set _
  · have hh := ownsRow_base hO (fun j hj => Nat.le_trans hN.le (Nat.le_trans (Nat.le_of_lt hlt) (hv2 j hj)))
    exact ownsRow_same (W' := w2.setCell ⟨b, 0, none⟩ v2) hh (fun j hj => Below.heap_setCell _ _ _ _ (fun (e : j = b) => by have := hv2 j hj; omega))
  · exact hB.os
  · exact hB.tape
  · exact hB.output
  · exact Nat.le_trans hB.size (by simp [World.setCell])
  · intro j hj hjb _
    rw [Below.heap_setCell _ _ _ _ hjb]
    exact hB.block j hj

set_option maxHeartbeats 2000000 in
set_option maxRecDepth 100000 in
theorem rclear_any (base b : Nat) (v : Value) (l : List G) (c : Int) (w : World) (hN : RAt base w b v l) (hl : l.length ≤ 1000000) :
    Calls Try.prog 20 #[.pointer (some ⟨b, 0, none⟩), .int .i64 c] w (RClearPost base w b v l c) := by
  obtain ⟨A, cap, rfl, hA, hcap, hmax⟩ := row_shape hN.row
  unfold maxLen at hmax
  have hcell := hN.cell
  have hbl := hN.lt
  obtain ⟨n, hn⟩ : ∃ n, n = l.length := ⟨_, rfl⟩
  rw [← hn] at hcell hcap hA hl
  have Hn := Lib.hid hn
  have HN := Lib.hid hN
  obtain ⟨i0, hi, hz0, hz1, hz2⟩ := info27all
  clear hN hn
  go_enter Try.func20, Try.ntmps20
  go_wp2_with fail
  go_loopw [5, 6] (fun ov iv wr => ∃ i : Nat, iv = .int .i64 i ∧ i ≤ n ∧ Below w.heap.size w wr ∧ Hid (wr.ownsRow w.heap.size 27 6 ov ((l.take i).filter (notOf c)).length (rows ((l.take i).filter (notOf c))))) (fun _ iv _ => n - (intOf iv).toNat)
  case atStart =>
    refine ⟨0, rfl, by omega, (Below.refl _ _).alloc (Nat.le_refl _) _, ?_⟩
    exact ⟨rfl, .inr ⟨_, 0, #[], rfl, Nat.le_refl _, World.alloc_heap_new w _, Nat.le_refl _, by simp [maxLen], rfl, rfl⟩⟩
  case round =>
    obtain ⟨i, rfl, hin, hB, hO⟩ := hrel
    have hcell2 := (hB.cell (p := ⟨b, 0, none⟩) hbl).trans hcell
    have hbl2 : b < wr.heap.size := Nat.lt_of_lt_of_le hbl hB.size
    by_cases hlt : i < n
    · obtain ⟨x, hx⟩ : ∃ x, l[i]? = some x := ⟨l[i]'(by have := Hn.out; omega), by simp⟩
      obtain ⟨g, rfl⟩ := hA (by omega)
      have hN2 := HN.out.below hB
      obtain ⟨c0, c1, c2, c3, c4, c5⟩ := row_cells hN2.row hx
      have hgl := (hN2.row.lt g rfl).2
      have e := take_filter_succ c hx
      have hml : ((l.take i).filter (notOf c)).length ≤ i := Nat.le_trans (List.length_filter_le _ _) (by simp; omega)
      obtain ⟨xc, xu, xe, xs, xa, xb⟩ := x
      dsimp only at c0 c1 c2 c3 c4 c5
      by_cases h1 : xc = c
      · subst h1
        have hE : Hid ((l.take (i + 1)).filter (notOf xc) = (l.take i).filter (notOf xc)) := by
          show _ = _
          rw [e]; simp [notOf]
        clear e hx hN2 hml
        go_wp2_with fail
        go_roundw
        case rel => exact ⟨i + 1, by simp, by omega, hB, by rw [hE.out]; exact hO⟩
        case measure => simp [intOf]; omega
      · have hb : (xc != c) = true := by simpa using h1
        have hE : Hid ((l.take (i + 1)).filter (notOf c) = (l.take i).filter (notOf c) ++ [⟨xc, xu, xe, xs, xa, xb⟩]) := by
          show _ = _
          rw [e]; simp [notOf, h1]
        clear e hx hN2 h1
        generalize (l.take i).filter (notOf c) = ms at *
        have HO : Hid (∀ o, (wr.alloc o).ownsRow w.heap.size 27 6 u5 ms.length (rows ms)) := fun o => hO.out.alloc o
        have HC := Lib.hid (one_cells wr ⟨xc, xu, xe, xs, xa, xb⟩)
        have HL : Hid ((rows [(⟨xc, xu, xe, xs, xa, xb⟩ : G)]).length = 6) := by show _ = _; rfl
        have H1 := Lib.hid (rows_one [(⟨xc, xu, xe, xs, xa, xb⟩ : G)])
        have hws : w.heap.size ≤ wr.heap.size := hB.size
        clear hO
        go_wp2_with (at_builtin; refine wpList_append_own _ rfl (.tmp 28) (.tmp 36) 22 rfl w.heap.size 27 i0 _ 6 56 Try.underlying22 hi hz0 hz1 hz2 rfl (by decide) _ ms.length (rows ms) rfl (HO.out _) ⟨wr.heap.size, 0, none⟩ 1 1 (rows [(⟨xc, xu, xe, xs, xa, xb⟩ : G)]) rfl HL.out HC.out H1.out (by unfold maxLen; omega) (by omega) (by simp; omega) ?_; intro v2 w2 hown2 hgrow2 _; have HG2 := Lib.hid hgrow2; have HO2 := Lib.hid hown2; clear hgrow2 hown2)
        go_roundw
        case rel =>
          refine ⟨i + 1, by simp, by omega, ?_, ?_⟩
          · refine (hB.alloc hB.size _).grown HG2.out (by simp; omega) (fun k e => ?_)
            exact ((HO.out (Obj.cells #[] 27)).lt k e).1
          · rw [hE.out, rows_append, List.length_append]
            exact HO2.out
        case measure => simp [intOf]; omega
    · obtain rfl : i = n := by omega
      have hfl : Hid ((l.take i).filter (notOf c) = l.filter (notOf c)) := by show _ = _; rw [Hn.out, List.take_length]
      rw [hfl.out] at hO
      have hle : (l.filter (notOf c)).length ≤ i := by rw [Hn.out]; exact List.length_filter_le _ _
      have hfr := (World.frozen?_of_block (a := ⟨b, 0, none⟩) (hB.block b hbl)).trans HN.out.frozen
      obtain ⟨A2, cap2, hv2, _, hc21, hc22⟩ := row_shape hO.out
      subst hv2
      unfold maxLen at hc22
      have HCN : Hid (clearN l c = (i : Int) - ((l.filter (notOf c)).length : Int)) := by show _ = _; unfold clearN; rw [Hn.out]
      have HF := Lib.hid (rclear_close HN.out hB hO.out)
      clear hlt hfl
      obtain ⟨fl, hfe⟩ : ∃ fl, fl = l.filter (notOf c) := ⟨_, rfl⟩
      rw [← hfe] at hO hle HCN HF hc21 ⊢
      have HFE := Lib.hid hfe
      clear hfe
      go_wp2
      go_ret
      refine ⟨congrArg (fun z => Ending.returned (Value.int .i64 z)) HCN.out.symm, ?_⟩
      rw [← HFE.out]
      exact HF.out
end Go.Proofs.Ytgfklingekiflaa
