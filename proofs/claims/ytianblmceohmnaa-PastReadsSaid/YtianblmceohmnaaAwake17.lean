/- The law's awake: what the document fixes by number. -/
import Derived.Test.YtianblmceohmnaaStands
import Derived.Test.YtianblmceohmnaaPAllLess
import Derived.Test.YtianblmceohmnaaPAllx1
import Derived.Test.YtianblmceohmnaaPAllx4
import Derived.Test.YtianblmceohmnaaPAllx5
import Derived.Deep.RegionHeld3
namespace Go.Proofs.Ytianblmceohmnaa.Hand
open Go.RowKit Go.Maps Go.Proofs.Ytianblmceohmnaa.PAll Go.Proofs.YtianblmceohmnaaW.PrintWords Go.Proofs.MapF
set_option linter.unusedVariables false
set_option linter.unusedSimpArgs false
set_option maxRecDepth 100000

def em29 : S29 := ⟨false, ⟨#[]⟩⟩
def x1 : S31 := ⟨1, ⟨1, 1, 1⟩, 1, 0, 5, 0, em29, em29, 0⟩
def x2 : S31 := ⟨1, ⟨1, 1, 2⟩, 2, 0, 3, 0, em29, em29, 0⟩
def x3 : S31 := ⟨3, ⟨1, 1, 1⟩, 3, 1, 0, 0, em29, em29, 0⟩
theorem g1 : good x1 = true := by kernel_rfl
theorem readA : past_Read.f [x1, x2, x3] 10 = some ([⟨⟨1, 1, 2⟩, 2⟩], [⟨1, 1, 1⟩], [⟨3, 11⟩, ⟨5, 10⟩]) := by kernel_rfl
theorem needA : past_Needed.f [x1, x2, x3] 10 = some 11 := by kernel_rfl
theorem ofA : past_Of.f 10 [x1, x2, x3] 1 1 1 = some [x1, x3] := by kernel_rfl
theorem lessA : past_Less.f 10 1 1 1 1 1 2 = some true := by kernel_rfl
attribute [local go_sem high] eqA24 eqA43 eqA45

structure Inv (w W : World) (gv : Nat) (A A0 A1 A2 : Addr) (c c0 c1 c2 : Nat) : Prop where
  below : Below w.heap.size w W
  l : Kd.C k31 W (some A) 3 [x1, x2, x3]
  v : W.heap[gv]? = some (.cells #[.slice (some A0) 1 c0, .slice (some A1) 1 c1, .slice (some A2) 2 c2] 37 (0, 0))
  r0 : Kd.C k43 W (some A0) 1 [⟨⟨1, 1, 2⟩, 2⟩]
  r1 : Kd.C k24 W (some A1) 1 [⟨1, 1, 1⟩]
  r2 : Kd.C k45 W (some A2) 2 [⟨3, 11⟩, ⟨5, 10⟩]
section
variable {w W W' : World} {gv : Nat} {A A0 A1 A2 : Addr} {c c0 c1 c2 : Nat}
theorem Inv.step (h : Inv w W gv A A0 A1 A2 c c0 c1 c2) (hb : Below W.heap.size W W') : Inv w W' gv A A0 A1 A2 c c0 c1 c2 :=
  ⟨below_step h.below hb, Kd.C_below h.l hb, blk_below h.v hb, Kd.C_below h.r0 hb, Kd.C_below h.r1 hb, Kd.C_below h.r2 hb⟩
theorem Inv.drewN (h : Inv w W gv A A0 A1 A2 c c0 c1 c2) (n : Nat) : Inv w (W.drewN n) gv A A0 A1 A2 c c0 c1 c2 := h.step ⟨rfl, rfl, rfl, Nat.le_refl _, fun _ _ => rfl⟩
theorem Inv.drew (h : Inv w W gv A A0 A1 A2 c c0 c1 c2) : Inv w W.drew gv A A0 A1 A2 c c0 c1 c2 := h.step ⟨rfl, rfl, rfl, Nat.le_refl _, fun _ _ => rfl⟩
theorem Inv.s (h : Inv w W gv A A0 A1 A2 c c0 c1 c2) :
    W.cell? ⟨gv, 0, none⟩ = some (.slice (some A0) 1 c0) ∧ W.cell? ⟨gv, 1, none⟩ = some (.slice (some A1) 1 c1) ∧ W.cell? ⟨gv, 2, none⟩ = some (.slice (some A2) 2 c2) ∧
    W.cell? A0 = some (.int .i64 1) ∧ W.cell? ⟨A0.block, A0.off + 1, none⟩ = some (.int .i64 1) ∧ W.cell? ⟨A0.block, A0.off + 2, none⟩ = some (.int .i64 2) ∧ W.cell? ⟨A0.block, A0.off + 3, none⟩ = some (.int .i64 2) ∧
    W.cell? A1 = some (.int .i64 1) ∧ W.cell? ⟨A1.block, A1.off + 1, none⟩ = some (.int .i64 1) ∧ W.cell? ⟨A1.block, A1.off + 2, none⟩ = some (.int .i64 1) ∧
    W.cell? A2 = some (.int .i64 3) ∧ W.cell? ⟨A2.block, A2.off + 1, none⟩ = some (.int .i64 11) := by
  obtain ⟨_, e0, a0, a1, a2, a3⟩ := at_T43 h.r0 0 (by decide) (by decide)
  obtain ⟨_, e1, b0, b1, b2⟩ := at_T24 h.r1 0 (by decide) (by decide)
  obtain ⟨_, e2, d0, d1⟩ := at_T45 h.r2 0 (by decide) (by decide)
  cases e0; cases e1; cases e2
  have az : ∀ a : Addr, a.add ((0 : Int).toNat * 4) = a ∧ a.add ((0 : Int).toNat * 3) = a ∧ a.add ((0 : Int).toNat * 2) = a := fun a => by
    have e : a.add 0 = a := by cases a; rename_i b o sp; cases sp <;> simp [Addr.add]
    exact ⟨e, e, e⟩
  simp only [az] at a0 a1 a2 a3 b0 b1 b2 d0 d1
  exact ⟨(blk_cell h.v 0).trans rfl, (blk_cell h.v 1).trans rfl, (blk_cell h.v 2).trans rfl, a0, a1, a2, a3, b0, b1, b2, d0, d1⟩
end

theorem rows31_C (W : World) : Kd.C k31 (W.alloc (.cells (([x1, x2, x3].flatMap fun x => (vs31 x).toList).toArray) 31)) (some ⟨W.heap.size, 0, none⟩) 3 [x1, x2, x3] := by
  have h := OwnRow.lit (R := k31.K (W.alloc (.cells (([x1, x2, x3].flatMap fun x => (vs31 x).toList).toArray) 31))) (e := 31) (size := 13) (ps := [x1, x2, x3]) W 0
    (reps_flat (enc := fun x => (vs31 x).toList) (fun x => k31_mk _ x) (fun _ => rfl) [x1, x2, x3]) (Nat.zero_le _) (by decide)
  obtain ⟨A, c, e, _, hr⟩ := OwnRow.reads h
  cases e
  exact hr

set_option maxHeartbeats 8000000 in
theorem awake17 (w : World) : Calls Try.prog 8 #[] w fun e w' => e = .returned (.bool true) ∧ Below w.heap.size w w' := by
  have t1 := fun W => seneschallaw17_txn.calls 1 _ _ _ W rfl
  have t2 := fun W => seneschallaw17_txn.calls 2 _ _ _ W rfl
  have hu31 := Try.underlying31
  have hu37 := Try.underlying37
  go_enter Try.func8, Try.ntmps8
  have HB := Aside0.mk (Below.refl w.heap.size w)
  go_upto_region 2 with (go_at_call 19; (first | (with_reducible refine (t1 _).mono ?_) | (with_reducible refine (t2 _).mono ?_)); rintro e w1 ⟨rfl, hb1⟩; have HBn := Aside0.mk (below_step HB.out hb1); clear HB; have HB := HBn; clear HBn hb1)
  generalize hW : World.alloc w1 _ = W
  have hC : Kd.C k31 W (some ⟨w1.heap.size, 0, none⟩) 3 [x1, x2, x3] := by rw [← hW]; exact rows31_C w1
  have HB2 := Aside0.mk (show Below w.heap.size w W by rw [← hW]; exact below_alloc HB.out _)
  clear hW HB
  generalize w1.heap.size = g at *
  have hrd := past_Read.calls (some ⟨g, 0, none⟩) 3 [x1, x2, x3] 10 _ _ _ W hC (by decide) readA
  have hlen : [x1, x2, x3].length = 3 := rfl
  rw [hlen] at hrd
  have HC := Aside0.mk hC
  clear hC hlen
  go_upto_region 3 with (first
    | (go_at_call 13; refine hrd.mono ?_; rintro e w2 ⟨v0, v1, v2, rfl, r0, r1, r2, hb2⟩; obtain ⟨A0, c0, rfl, _, k0⟩ := Kd.R_reads r0; obtain ⟨A1, c1, rfl, _, k1⟩ := Kd.R_reads r1; obtain ⟨A2, c2, rfl, _, k2⟩ := Kd.R_reads r2; have HB3 := Aside0.mk (below_step HB2.out hb2); have HC3 := Aside0.mk (Kd.C_below HC.out hb2); have K0 := Aside0.mk k0; have K1 := Aside0.mk k1; have K2 := Aside0.mk k2; clear r0 r1 r2 k0 k1 k2 hb2 HB2 HC)
    | ((with_reducible refine gate_dst (N := 2) rfl ?_); refine box_event ?hg (N := 2) ?hd (cs := nils) (t := 37) ?hr ?_; (case hd => rfl); (case hg => rfl); (case hr => first | (go_simp; done) | (go_simp; rfl)); intro gv hg w3 hbox hb)
    | (refine store_box rfl rfl rfl rfl (seg := #[.slice A0 1 c0, .slice A1 1 c1, .slice A2 2 c2]) rfl hbox rfl size37 (oneS _ _ _ ⟨_, _, _, rfl⟩ ⟨_, _, _, rfl⟩ ⟨_, _, _, rfl⟩) ?_; intro w4 hbox4 hgr hsz hbel; have hbb := hb.trans (hbel _ (Nat.le_of_eq hg.symm)); have BX := Aside0.mk hbox4; have HBB := Aside0.mk hbb; clear hbox4 hgr hsz hbel hbb hbox hb hg))
  have hI : ∃ a0 a1 a2, A0 = some a0 ∧ A1 = some a1 ∧ A2 = some a2 := by
    obtain ⟨a0, e0, _⟩ := K0.out.2.2 (by decide)
    obtain ⟨a1, e1, _⟩ := K1.out.2.2 (by decide)
    obtain ⟨a2, e2, _⟩ := K2.out.2.2 (by decide)
    exact ⟨a0, a1, a2, e0, e1, e2⟩
  obtain ⟨a0, a1, a2, rfl, rfl, rfl⟩ := hI
  have HI : Aside0 (Inv w w4 gv ⟨g, 0, none⟩ a0 a1 a2 3 c0 c1 c2) := ⟨⟨below_step HB3.out HBB.out, Kd.C_below HC3.out HBB.out, BX.out, Kd.C_below K0.out HBB.out, Kd.C_below K1.out HBB.out, Kd.C_below K2.out HBB.out⟩⟩
  clear HBB HC3 BX K0 K1 K2 HB3 hrd
  have nd := fun W (h : Kd.C k31 W (some ⟨g, 0, none⟩) 3 [x1, x2, x3]) => past_Needed.calls (some ⟨g, 0, none⟩) 3 [x1, x2, x3] 10 _ W h (by decide) needA
  have od := fun W (h : Kd.C k31 W (some ⟨g, 0, none⟩) 3 [x1, x2, x3]) => past_Of.calls 10 (some ⟨g, 0, none⟩) 3 [x1, x2, x3] 1 1 1 _ W h (by decide) ofA
  have ld := fun W => past_Less.calls 10 1 1 1 1 1 2 _ W lessA
  obtain ⟨s0, s1, s2, s3, s4, s5, s6, s7, s8, s9, s10, s11⟩ := HI.out.s
  go_region_held3 (fun W => W.cell? ⟨gv, 0, none⟩ = some (.slice (some a0) 1 c0) ∧ W.cell? ⟨gv, 1, none⟩ = some (.slice (some a1) 1 c1) ∧ W.cell? ⟨gv, 2, none⟩ = some (.slice (some a2) 2 c2) ∧
    W.cell? a0 = some (.int .i64 1) ∧ W.cell? ⟨a0.block, a0.off + 1, none⟩ = some (.int .i64 1) ∧ W.cell? ⟨a0.block, a0.off + 2, none⟩ = some (.int .i64 2) ∧ W.cell? ⟨a0.block, a0.off + 3, none⟩ = some (.int .i64 2) ∧
    W.cell? a1 = some (.int .i64 1) ∧ W.cell? ⟨a1.block, a1.off + 1, none⟩ = some (.int .i64 1) ∧ W.cell? ⟨a1.block, a1.off + 2, none⟩ = some (.int .i64 1) ∧
    W.cell? a2 = some (.int .i64 3) ∧ W.cell? ⟨a2.block, a2.off + 1, none⟩ = some (.int .i64 11))
    (first | exact HI.out.s | exact (HI.out.drewN _).s | exact HI.out.drew.s | go_keep)
    (first
      | (go_at_call 19; (first | (with_reducible refine (t1 _).mono ?_) | (with_reducible refine (t2 _).mono ?_)); rintro e w5 ⟨rfl, hb5⟩; have HJ := Aside0.mk ((show Inv w _ gv ⟨g, 0, none⟩ a0 a1 a2 3 c0 c1 c2 from (by first | exact HI.out | exact HI.out.drew | exact HI.out.drewN _)).step hb5); clear HI; have HI := HJ; clear HJ hb5)
      | (go_at_call 15; refine (nd _ (by first | exact HI.out.l | exact HI.out.drew.l | exact (HI.out.drewN _).l)).mono ?_; rintro e w5 ⟨rfl, hb5⟩; have HJ := Aside0.mk ((show Inv w _ gv ⟨g, 0, none⟩ a0 a1 a2 3 c0 c1 c2 from (by first | exact HI.out | exact HI.out.drew | exact HI.out.drewN _)).step hb5); clear HI; have HI := HJ; clear HJ hb5)
      | (go_at_call 10; refine (od _ (by first | exact HI.out.l | exact HI.out.drew.l | exact (HI.out.drewN _).l)).mono ?_; rintro e w5 ⟨v, rfl, rv, hb5⟩; obtain ⟨A9, c9, rfl, _, _⟩ := Kd.R_reads rv; have HJ := Aside0.mk ((show Inv w _ gv ⟨g, 0, none⟩ a0 a1 a2 3 c0 c1 c2 from (by first | exact HI.out | exact HI.out.drew | exact HI.out.drewN _)).step hb5); clear HI; have HI := HJ; clear HJ hb5 rv)
      | (go_at_call 17; refine (ld _).mono ?_; rintro e w5 ⟨rfl, hb5⟩; have HJ := Aside0.mk ((show Inv w _ gv ⟨g, 0, none⟩ a0 a1 a2 3 c0 c1 c2 from (by first | exact HI.out | exact HI.out.drew | exact HI.out.drewN _)).step hb5); clear HI; have HI := HJ; clear HJ hb5))
  go_wp2_with fail
  go_ret
  exact ⟨rfl, by first | exact HI.out.below | exact (HI.out.drewN _).below | exact HI.out.drew.below⟩
end Go.Proofs.Ytianblmceohmnaa.Hand

namespace Go.Proofs.Ytianblmceohmnaa.PAll
open Go.RowKit
def seneschallaw17_awake.f : Option Bool := some true
theorem seneschallaw17_awake.calls (r : Bool) (w : World) (h : seneschallaw17_awake.f = some r) :
    Calls Try.prog 8 #[] w fun e w' => e = .returned (.bool r) ∧ Below w.heap.size w w' := by
  obtain rfl : true = r := Option.some.inj h
  exact Go.Proofs.Ytianblmceohmnaa.Hand.awake17 w
end Go.Proofs.Ytianblmceohmnaa.PAll
