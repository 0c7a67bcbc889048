/- The walk of law 13's awake: it returns true. -/
import Derived.Deep.RegionLaw
import Derived.Deep.LoopGhost
import Derived.Test.YtgfklingekiflaaClear
namespace Go.Proofs.Ytgfklingekiflaa
open Go.RowKit Go.Shelf
set_option linter.unusedSimpArgs false

theorem NetAt.below {base : Nat} {w w' : World} {b : Nat} {v : Value} {l : List G} (hN : NetAt base w b v l) (h : Below w.heap.size w w') : NetAt base w' b v l := hN.same (h.block b hN.lt) (fun k hk => h.block k (hN.row.lt k hk).2)
theorem NetPost.below {base : Nat} {w w' : World} {b : Nat} {v : Value} {l0 l : List G} (hN : NetAt base w b v l0) (hp : NetPost base w b v l w') : Below base w w' := by
  obtain ⟨v', h1, h2, h3⟩ := hp
  refine ⟨h2.os, h2.tape, h2.output, h2.size, fun k hk => h2.block k ?_ ?_ ?_⟩
  · have := hN.lt; have := hN.le; omega
  · have := hN.le; omega
  · intro h
    have := (hN.row.lt k h).1
    omega

/-- A net of the call's own, and nothing that was there has turned. -/
structure Net1 (w0 W : World) (b : Nat) (v : Value) (l : List G) : Prop where
  net : NetAt w0.heap.size W b v l
  below : Below w0.heap.size w0 W

theorem Net1.step {w0 W W' : World} {b : Nat} {v : Value} {l : List G} (h : Net1 w0 W b v l) (hb : Below W.heap.size W W') : Net1 w0 W' b v l := ⟨h.net.below hb, h.below.trans (hb.mono h.below.size)⟩
theorem Net1.post {w0 W W' : World} {b : Nat} {v : Value} {l l' : List G} (h : Net1 w0 W b v l) (hp : NetPost w0.heap.size W b v l' W') : ∃ v', Net1 w0 W' b v' l' := by
  have hb := NetPost.below h.net hp
  obtain ⟨v', h1, _, _⟩ := hp
  exact ⟨v', h1, h.below.trans hb⟩
theorem Net1.new (w : World) : Net1 w (w.alloc (.cells #[.slice none 0 0] 53)) w.heap.size (.slice none 0 0) [] :=
  ⟨⟨Nat.le_refl _, World.alloc_heap_new w _, World.ownsRow_nil _ _ _ _⟩, (Below.refl _ _).alloc (Nat.le_refl _) _⟩

theorem undrew {W W' : World} (h : Below W.drew.heap.size W.drew W') : Below W.heap.size W W' := ((Below.refl _ W).drew).trans h

theorem take_at {P : Program} {md : Region.Mode} {ops : Array Oper} {Q : Exit → Act → World → Prop} {i : Nat} {oi : Oper} {v : Value} {fuel : Nat} {listed : Array Bool} {a : Act} {w : World} (d : Option Tmp) (hi : ops[i]? = some oi) (hd : oi.dst = d)
    (hs : Region.noSelect ops = true) (hf : Region.free md ops listed i = true) (hr : (Region.ready md ops listed).contains i = true)
    (hQ : ∀ c a w, Q (.panic c) (a.put d v) w → Q (.panic c) a w) (hy : Yields P ops oi v a)
    (h : wpAny P md ops Q fuel (listed.setIfInBounds i true) (a.put d v) w) : wpAny P md ops Q (fuel + 1) listed a w := by
  subst hd
  exact wpAny_take hi hs hf hr hQ hy h

def gA : G := ⟨1, true, 0, 0, 0, ⟨#[97]⟩⟩
def gB : G := ⟨1, true, 0, 0, 0, ⟨#[98]⟩⟩

set_option maxHeartbeats 4000000 in
set_option maxRecDepth 100000 in
theorem awake_any (w : World) : Calls Try.prog 7 #[] w fun e w' => e = .returned (.bool true) ∧ Below w.heap.size w w' := by
  go_enter Try.func7, Try.ntmps7
  go_wp2_with fail
  refine (new_any _).mono ?_
  rintro e w1 ⟨rfl, rfl⟩
  have h0 := Net1.new w
  generalize (w.alloc (.cells #[.slice none 0 0] 53)) = w1 at *
  have hb := w.heap.size
  go_wp2_with fail
  refine (gram_any _ _).mono ?_
  rintro e w2 ⟨rfl, hb2⟩
  replace h0 := h0.step hb2
  clear hb2
  go_wp2_with fail
  refine (put_any _ _ _ [] gA _ h0.net (by decide)).mono ?_
  rintro e w3 ⟨rfl, hp⟩
  obtain ⟨v3, h3⟩ := h0.post hp
  have hc : putCode [] gA = 0 := by decide
  have hl : putList [] gA = [gA] := by simp [putList, hc]
  rw [hl] at h3
  rw [hc]
  clear hp h0 hc hl
  go_wp2_with fail
  refine (gram_any _ _).mono ?_
  rintro e w4 ⟨rfl, hb4⟩
  replace h3 := h3.step hb4
  clear hb4
  go_wp2_with fail
  refine (put_any _ _ _ [gA] gB _ h3.net (by decide)).mono ?_
  rintro e w5 ⟨rfl, hp⟩
  obtain ⟨v5, h5⟩ := h3.post hp
  have hc : putCode [gA] gB = 0 := by decide
  have hl : putList [gA] gB = [gA, gB] := by simp [putList, hc]
  rw [hl] at h5
  rw [hc]
  clear hp h3 hc hl
  go_wp2_with fail
  refine (copy_any _ _ _ [gA, gB] 1 true 0 _ (by decide) (by decide) h5.net (by decide)).mono ?_
  rintro e w6 ⟨rfl, hp⟩
  obtain ⟨v6, h6⟩ := h5.post hp
  have hc : copyB [gA, gB] 1 true 0 = true := by decide
  have hl : copyL [gA, gB] 1 true 0 = [gA, gB, gA] := by rfl
  rw [hl] at h6
  rw [hc]
  clear hp h5 hc hl
  go_wp2_with fail
  refine (count_any _ _ _ [gA, gB, gA] 1 true _ h6.net (by decide)).mono ?_
  rintro e w7 ⟨rfl, hb7⟩
  have hc : cnt [gA, gB, gA] 1 true = 3 := by decide
  rw [hc]
  replace h6 := h6.step hb7
  clear hb7 hc
  go_wp2_with fail
  refine (pick_any _ _ _ [gA, gB, gA] 1 true 1 _ (by decide) (by decide) h6.net (by decide)).mono ?_
  intro e w8 hpp
  obtain ⟨x, y, hx, hy, rfl, hp⟩ := pullpost_ret hpp
  clear hpp
  obtain ⟨v8, h8⟩ := h6.post hp
  have e1 : plOf [gA, gB, gA] 1 true 1 = 1 := by decide
  rw [e1] at hx hy h8
  obtain rfl : x = G.mk 1 true 0 0 0 ⟨#[98]⟩ := hx
  obtain rfl : y = true := hy
  have hl : pullL [gA, gB, gA] 1 = [gA, gA] := by rfl
  rw [hl] at h8
  clear hp h6 hl e1
  go_wp2_with fail
  have hal : ∀ o, Below w8.heap.size w8 (w8.alloc o) := fun o => (Below.refl _ _).alloc (Nat.le_refl _) _
  refine (eldest_any _ _ _ [gA, gA] _ (h8.step (hal _)).net).mono ?_
  intro e w9 hpp
  obtain ⟨x, y, hx, hy, rfl, hp⟩ := pullpost_ret hpp
  clear hpp
  obtain ⟨d2, hs2⟩ := hp.there h8.net
  obtain ⟨v9, h9⟩ := (h8.step (hal _)).post hp
  obtain rfl : x = G.mk 1 true 0 0 0 ⟨#[97]⟩ := hx
  obtain rfl : y = true := hy
  have hl : pullL [gA, gA] 0 = [gA] := by rfl
  rw [hl] at h9
  clear hp h8 hl hal
  generalize w8.heap.size = B2 at *
  have c0 := cell_of_row w9 _ 0 _ _ _ d2
  have c1 := cell_of_row w9 _ 1 _ _ _ d2
  have c2 := cell_of_row w9 _ 2 _ _ _ d2
  have c3 := cell_of_row w9 _ 3 _ _ _ d2
  have c4 := cell_of_row w9 _ 4 _ _ _ d2
  have c5 := cell_of_row w9 _ 5 _ _ _ d2
  clear d2
  have H9 := Lib.hid h9
  clear h9
  go_wp2_with fail
  have hal : Below w9.heap.size w9 (w9.alloc (.cells #[.int .i64 1, .bool true, .int .i64 0, .int .i64 0, .int .i64 0, .string ⟨#[97]⟩] 27)) := (Below.refl _ _).alloc (Nat.le_refl _) _
  have h9 := H9.out.step hal
  have d4 := World.alloc_heap_new w9 (.cells #[.int .i64 1, .bool true, .int .i64 0, .int .i64 0, .int .i64 0, .string ⟨#[97]⟩] 27)
  have hs4 : w9.heap.size < (w9.alloc (.cells #[.int .i64 1, .bool true, .int .i64 0, .int .i64 0, .int .i64 0, .string ⟨#[97]⟩] 27)).heap.size := by simp
  replace c0 := (hal.cell (p := ⟨B2, 0, none⟩) hs2).trans c0
  replace c1 := (hal.cell (p := ⟨B2, 1, none⟩) hs2).trans c1
  replace c2 := (hal.cell (p := ⟨B2, 2, none⟩) hs2).trans c2
  replace c3 := (hal.cell (p := ⟨B2, 3, none⟩) hs2).trans c3
  replace c4 := (hal.cell (p := ⟨B2, 4, none⟩) hs2).trans c4
  replace c5 := (hal.cell (p := ⟨B2, 5, none⟩) hs2).trans c5
  replace hs2 := Nat.lt_trans hs2 hs4
  generalize (w9.alloc (.cells #[.int .i64 1, .bool true, .int .i64 0, .int .i64 0, .int .i64 0, .string ⟨#[97]⟩] 27)) = W at *
  generalize w9.heap.size = B4 at *
  have k0 := cell_of_row W _ 0 _ _ _ d4
  have k1 := cell_of_row W _ 1 _ _ _ d4
  have k2 := cell_of_row W _ 2 _ _ _ d4
  have k3 := cell_of_row W _ 3 _ _ _ d4
  have k4 := cell_of_row W _ 4 _ _ _ d4
  have k5 := cell_of_row W _ 5 _ _ _ d4
  clear d4 H9 hal
  have HN := Lib.hid h9
  clear h9
  refine wp_region_any (by kernel_rfl) ?_
  change wpAny _ _ _ _ _ _ _ (World.drew _)
  refine wpAny_ready (rs := [0, 1]) (by kernel_rfl) (by simp) ?_
  refine AllReady.cons rfl (fun K hK => ?_) (AllReady.cons rfl (fun K hK => ?_) AllReady.nil)
  · go_simp
    refine hK _ _ ?_
    clear hK K
    refine wpAny_ready (rs := [1]) (by kernel_rfl) (by simp) ?_
    refine AllReady.cons rfl (fun K hK => ?_) AllReady.nil
    go_simp
    refine (gram_any _ _).mono ?_
    rintro e W' ⟨rfl, hb⟩
    (first | (with_reducible replace hb := undrew hb) | skip)
    replace c0 := (hb.cell (p := ⟨B2, 0, none⟩) hs2).trans c0
    replace c1 := (hb.cell (p := ⟨B2, 1, none⟩) hs2).trans c1
    replace c2 := (hb.cell (p := ⟨B2, 2, none⟩) hs2).trans c2
    replace c3 := (hb.cell (p := ⟨B2, 3, none⟩) hs2).trans c3
    replace c4 := (hb.cell (p := ⟨B2, 4, none⟩) hs2).trans c4
    replace c5 := (hb.cell (p := ⟨B2, 5, none⟩) hs2).trans c5
    replace k0 := (hb.cell (p := ⟨B4, 0, none⟩) hs4).trans k0
    replace k1 := (hb.cell (p := ⟨B4, 1, none⟩) hs4).trans k1
    replace k2 := (hb.cell (p := ⟨B4, 2, none⟩) hs4).trans k2
    replace k3 := (hb.cell (p := ⟨B4, 3, none⟩) hs4).trans k3
    replace k4 := (hb.cell (p := ⟨B4, 4, none⟩) hs4).trans k4
    replace k5 := (hb.cell (p := ⟨B4, 5, none⟩) hs4).trans k5
    replace hs2 := Nat.lt_of_lt_of_le hs2 hb.size
    replace hs4 := Nat.lt_of_lt_of_le hs4 hb.size
    replace HN := Lib.hid (HN.out.step hb)
    clear hb
    try dsimp only
    refine hK _ _ ?_
    clear hK K
    refine take_at (i := 2) (v := ?_) (some 43) rfl rfl (by kernel_rfl) (by kernel_rfl) (by kernel_rfl) (fun _ _ _ h => h) (Or.inl ⟨by rfl, ?_⟩) ?_
    rotate_left
    · intro w; go_simp; (try with_reducible rfl)
    simp only [Act.put, List.setIfInBounds_toArray, List.set_cons_zero, List.set_cons_succ]
    refine take_at (i := 3) (v := ?_) (some 44) rfl rfl (by kernel_rfl) (by kernel_rfl) (by kernel_rfl) (fun _ _ _ h => h) (Or.inl ⟨by rfl, ?_⟩) ?_
    rotate_left
    · intro w; go_simp; (try with_reducible rfl)
    simp only [Act.put, List.setIfInBounds_toArray, List.set_cons_zero, List.set_cons_succ]
    refine take_at (i := 4) (v := ?_) (some 45) rfl rfl (by kernel_rfl) (by kernel_rfl) (by kernel_rfl) (fun _ _ _ h => h) (Or.inl ⟨by rfl, ?_⟩) ?_
    rotate_left
    · intro w; go_simp; (try with_reducible rfl)
    simp only [Act.put, List.setIfInBounds_toArray, List.set_cons_zero, List.set_cons_succ]
    refine take_at (i := 5) (v := ?_) (some 46) rfl rfl (by kernel_rfl) (by kernel_rfl) (by kernel_rfl) (fun _ _ _ h => h) (Or.inl ⟨by rfl, ?_⟩) ?_
    rotate_left
    · intro w; go_simp; (try with_reducible rfl)
    simp only [Act.put, List.setIfInBounds_toArray, List.set_cons_zero, List.set_cons_succ]
    refine take_at (i := 6) (v := ?_) (some 47) rfl rfl (by kernel_rfl) (by kernel_rfl) (by kernel_rfl) (fun _ _ _ h => h) (Or.inl ⟨by rfl, ?_⟩) ?_
    rotate_left
    · intro w; go_simp; (try with_reducible rfl)
    simp only [Act.put, List.setIfInBounds_toArray, List.set_cons_zero, List.set_cons_succ]
    refine wpAny_ready (rs := [7, 8]) (by kernel_rfl) (by simp) ?_
    refine AllReady.cons rfl (fun K hK => ?_) (AllReady.cons rfl (fun K hK => ?_) AllReady.nil)
    · go_simp
      refine hK _ _ ?_
      clear hK K
      refine wpAny_ready (rs := [8]) (by kernel_rfl) (by simp) ?_
      refine AllReady.cons rfl (fun K hK => ?_) AllReady.nil
      go_simp
      refine (gram_any _ _).mono ?_
      rintro e W' ⟨rfl, hb⟩
      (first | (with_reducible replace hb := undrew hb) | skip)
      replace c0 := (hb.cell (p := ⟨B2, 0, none⟩) hs2).trans c0
      replace c1 := (hb.cell (p := ⟨B2, 1, none⟩) hs2).trans c1
      replace c2 := (hb.cell (p := ⟨B2, 2, none⟩) hs2).trans c2
      replace c3 := (hb.cell (p := ⟨B2, 3, none⟩) hs2).trans c3
      replace c4 := (hb.cell (p := ⟨B2, 4, none⟩) hs2).trans c4
      replace c5 := (hb.cell (p := ⟨B2, 5, none⟩) hs2).trans c5
      replace k0 := (hb.cell (p := ⟨B4, 0, none⟩) hs4).trans k0
      replace k1 := (hb.cell (p := ⟨B4, 1, none⟩) hs4).trans k1
      replace k2 := (hb.cell (p := ⟨B4, 2, none⟩) hs4).trans k2
      replace k3 := (hb.cell (p := ⟨B4, 3, none⟩) hs4).trans k3
      replace k4 := (hb.cell (p := ⟨B4, 4, none⟩) hs4).trans k4
      replace k5 := (hb.cell (p := ⟨B4, 5, none⟩) hs4).trans k5
      replace hs2 := Nat.lt_of_lt_of_le hs2 hb.size
      replace hs4 := Nat.lt_of_lt_of_le hs4 hb.size
      replace HN := Lib.hid (HN.out.step hb)
      clear hb
      try dsimp only
      refine hK _ _ ?_
      clear hK K
      refine take_at (i := 9) (v := ?_) (some 50) rfl rfl (by kernel_rfl) (by kernel_rfl) (by kernel_rfl) (fun _ _ _ h => h) (Or.inl ⟨by rfl, ?_⟩) ?_
      rotate_left
      · intro w; go_simp; (try with_reducible rfl)
      simp only [Act.put, List.setIfInBounds_toArray, List.set_cons_zero, List.set_cons_succ]
      refine take_at (i := 10) (v := ?_) (some 51) rfl rfl (by kernel_rfl) (by kernel_rfl) (by kernel_rfl) (fun _ _ _ h => h) (Or.inl ⟨by rfl, ?_⟩) ?_
      rotate_left
      · intro w; go_simp; (try with_reducible rfl)
      simp only [Act.put, List.setIfInBounds_toArray, List.set_cons_zero, List.set_cons_succ]
      refine take_at (i := 11) (v := ?_) (some 52) rfl rfl (by kernel_rfl) (by kernel_rfl) (by kernel_rfl) (fun _ _ _ h => h) (Or.inl ⟨by rfl, ?_⟩) ?_
      rotate_left
      · intro w; go_simp; (try with_reducible rfl)
      simp only [Act.put, List.setIfInBounds_toArray, List.set_cons_zero, List.set_cons_succ]
      refine take_at (i := 12) (v := ?_) (some 53) rfl rfl (by kernel_rfl) (by kernel_rfl) (by kernel_rfl) (fun _ _ _ h => h) (Or.inl ⟨by rfl, ?_⟩) ?_
      rotate_left
      · intro w; go_simp; (try with_reducible rfl)
      simp only [Act.put, List.setIfInBounds_toArray, List.set_cons_zero, List.set_cons_succ]
      refine take_at (i := 13) (v := ?_) (some 54) rfl rfl (by kernel_rfl) (by kernel_rfl) (by kernel_rfl) (fun _ _ _ h => h) (Or.inl ⟨by rfl, ?_⟩) ?_
      rotate_left
      · intro w; go_simp; (try with_reducible rfl)
      simp only [Act.put, List.setIfInBounds_toArray, List.set_cons_zero, List.set_cons_succ]
      refine take_at (i := 14) (v := ?_) (some 55) rfl rfl (by kernel_rfl) (by kernel_rfl) (by kernel_rfl) (fun _ _ _ h => h) (Or.inl ⟨by rfl, ?_⟩) ?_
      rotate_left
      · intro w; go_simp; (try with_reducible rfl)
      simp only [Act.put, List.setIfInBounds_toArray, List.set_cons_zero, List.set_cons_succ]
      refine take_at (i := 15) (v := ?_) (some 56) rfl rfl (by kernel_rfl) (by kernel_rfl) (by kernel_rfl) (fun _ _ _ h => h) (Or.inl ⟨by rfl, ?_⟩) ?_
      rotate_left
      · intro w; go_simp; (try with_reducible rfl)
      simp only [Act.put, List.setIfInBounds_toArray, List.set_cons_zero, List.set_cons_succ]
      refine take_at (i := 16) (v := ?_) (some 57) rfl rfl (by kernel_rfl) (by kernel_rfl) (by kernel_rfl) (fun _ _ _ h => h) (Or.inl ⟨by rfl, ?_⟩) ?_
      rotate_left
      · intro w; go_simp; (try with_reducible rfl)
      simp only [Act.put, List.setIfInBounds_toArray, List.set_cons_zero, List.set_cons_succ]
      refine wpAny_ready (rs := [17]) (by kernel_rfl) (by simp) ?_
      refine AllReady.cons rfl (fun K hK => ?_) AllReady.nil
      go_simp
      refine (put_any _ _ _ [gA] G.zero _ HN.out.net (by decide)).mono ?_
      rintro e W' ⟨rfl, hp⟩
      obtain ⟨vv, hh⟩ := HN.out.post hp
      rw [show putCode [gA] G.zero = 1 from by decide]
      rw [show putList [gA] G.zero = [gA] from rfl] at hh
      clear hp HN c0 c1 c2 c3 c4 c5 k0 k1 k2 k3 k4 k5 hs2 hs4
      have HN := Lib.hid hh
      clear hh
      try dsimp only
      refine hK _ _ ?_
      clear hK K
      refine take_at (i := 18) (v := ?_) (some 59) rfl rfl (by kernel_rfl) (by kernel_rfl) (by kernel_rfl) (fun _ _ _ h => h) (Or.inl ⟨by rfl, ?_⟩) ?_
      rotate_left
      · intro w; go_simp; (try with_reducible rfl)
      simp only [Act.put, List.setIfInBounds_toArray, List.set_cons_zero, List.set_cons_succ]
      refine take_at (i := 19) (v := ?_) (some 60) rfl rfl (by kernel_rfl) (by kernel_rfl) (by kernel_rfl) (fun _ _ _ h => h) (Or.inl ⟨by rfl, ?_⟩) ?_
      rotate_left
      · intro w; go_simp; (try with_reducible rfl)
      simp only [Act.put, List.setIfInBounds_toArray, List.set_cons_zero, List.set_cons_succ]
      refine take_at (i := 20) (v := ?_) (some 61) rfl rfl (by kernel_rfl) (by kernel_rfl) (by kernel_rfl) (fun _ _ _ h => h) (Or.inl ⟨by rfl, ?_⟩) ?_
      rotate_left
      · intro w; go_simp; (try with_reducible rfl)
      simp only [Act.put, List.setIfInBounds_toArray, List.set_cons_zero, List.set_cons_succ]
      refine take_at (i := 21) (v := ?_) (some 62) rfl rfl (by kernel_rfl) (by kernel_rfl) (by kernel_rfl) (fun _ _ _ h => h) (Or.inl ⟨by rfl, ?_⟩) ?_
      rotate_left
      · intro w; go_simp; (try with_reducible rfl)
      simp only [Act.put, List.setIfInBounds_toArray, List.set_cons_zero, List.set_cons_succ]
      refine wpAny_ready (rs := [22]) (by kernel_rfl) (by simp) ?_
      refine AllReady.cons rfl (fun K hK => ?_) AllReady.nil
      go_simp
      refine (clear_any _ _ _ [gA] 1 _ HN.out.net).mono ?_
      rintro e W' ⟨rfl, hp⟩
      obtain ⟨vv, hh⟩ := HN.out.post hp
      rw [show clearN [gA] 1 = 1 from by decide]
      rw [show [gA].filter (notOf 1) = [] from rfl] at hh
      clear hp HN
      have HN := Lib.hid hh
      clear hh
      try dsimp only
      refine hK _ _ ?_
      clear hK K
      refine take_at (i := 23) (v := ?_) (some 64) rfl rfl (by kernel_rfl) (by kernel_rfl) (by kernel_rfl) (fun _ _ _ h => h) (Or.inl ⟨by rfl, ?_⟩) ?_
      rotate_left
      · intro w; go_simp; (try with_reducible rfl)
      simp only [Act.put, List.setIfInBounds_toArray, List.set_cons_zero, List.set_cons_succ]
      refine take_at (i := 24) (v := ?_) (some 65) rfl rfl (by kernel_rfl) (by kernel_rfl) (by kernel_rfl) (fun _ _ _ h => h) (Or.inl ⟨by rfl, ?_⟩) ?_
      rotate_left
      · intro w; go_simp; (try with_reducible rfl)
      simp only [Act.put, List.setIfInBounds_toArray, List.set_cons_zero, List.set_cons_succ]
      refine take_at (i := 25) (v := ?_) (some 66) rfl rfl (by kernel_rfl) (by kernel_rfl) (by kernel_rfl) (fun _ _ _ h => h) (Or.inl ⟨by rfl, ?_⟩) ?_
      rotate_left
      · intro w; go_simp; (try with_reducible rfl)
      simp only [Act.put, List.setIfInBounds_toArray, List.set_cons_zero, List.set_cons_succ]
      refine take_at (i := 26) (v := ?_) (some 67) rfl rfl (by kernel_rfl) (by kernel_rfl) (by kernel_rfl) (fun _ _ _ h => h) (Or.inl ⟨by rfl, ?_⟩) ?_
      rotate_left
      · intro w; go_simp; (try with_reducible rfl)
      simp only [Act.put, List.setIfInBounds_toArray, List.set_cons_zero, List.set_cons_succ]
      refine wpAny_ready (rs := [27]) (by kernel_rfl) (by simp) ?_
      refine AllReady.cons rfl (fun K hK => ?_) AllReady.nil
      go_simp
      refine (count_any _ _ _ [] 1 true _ HN.out.net (by decide)).mono ?_
      rintro e W' ⟨rfl, hb⟩
      rw [show cnt [] 1 true = 0 from by decide]
      replace HN := Lib.hid (HN.out.step hb)
      clear hb
      try dsimp only
      refine hK _ _ ?_
      clear hK K
      refine take_at (i := 28) (v := ?_) (some 69) rfl rfl (by kernel_rfl) (by kernel_rfl) (by kernel_rfl) (fun _ _ _ h => h) (Or.inl ⟨by rfl, ?_⟩) ?_
      rotate_left
      · intro w; go_simp; (try with_reducible rfl)
      simp only [Act.put, List.setIfInBounds_toArray, List.set_cons_zero, List.set_cons_succ]
      refine take_at (i := 29) (v := ?_) (some 70) rfl rfl (by kernel_rfl) (by kernel_rfl) (by kernel_rfl) (fun _ _ _ h => h) (Or.inl ⟨by rfl, ?_⟩) ?_
      rotate_left
      · intro w; go_simp; (try with_reducible rfl)
      simp only [Act.put, List.setIfInBounds_toArray, List.set_cons_zero, List.set_cons_succ]
      refine take_at (i := 30) (v := ?_) (some 0) rfl rfl (by kernel_rfl) (by kernel_rfl) (by kernel_rfl) (fun _ _ _ h => h) (Or.inl ⟨by rfl, ?_⟩) ?_
      rotate_left
      · intro w; go_simp; (try with_reducible rfl)
      simp only [Act.put, List.setIfInBounds_toArray, List.set_cons_zero, List.set_cons_succ]
      refine wpAny_done (by kernel_rfl) ?_ _
      go_wp2
      go_ret
      exact ⟨rfl, HN.out.below⟩
    · go_simp
      refine (gram_any _ _).mono ?_
      rintro e W' ⟨rfl, hb⟩
      (first | (with_reducible replace hb := undrew hb) | skip)
      replace c0 := (hb.cell (p := ⟨B2, 0, none⟩) hs2).trans c0
      replace c1 := (hb.cell (p := ⟨B2, 1, none⟩) hs2).trans c1
      replace c2 := (hb.cell (p := ⟨B2, 2, none⟩) hs2).trans c2
      replace c3 := (hb.cell (p := ⟨B2, 3, none⟩) hs2).trans c3
      replace c4 := (hb.cell (p := ⟨B2, 4, none⟩) hs2).trans c4
      replace c5 := (hb.cell (p := ⟨B2, 5, none⟩) hs2).trans c5
      replace k0 := (hb.cell (p := ⟨B4, 0, none⟩) hs4).trans k0
      replace k1 := (hb.cell (p := ⟨B4, 1, none⟩) hs4).trans k1
      replace k2 := (hb.cell (p := ⟨B4, 2, none⟩) hs4).trans k2
      replace k3 := (hb.cell (p := ⟨B4, 3, none⟩) hs4).trans k3
      replace k4 := (hb.cell (p := ⟨B4, 4, none⟩) hs4).trans k4
      replace k5 := (hb.cell (p := ⟨B4, 5, none⟩) hs4).trans k5
      replace hs2 := Nat.lt_of_lt_of_le hs2 hb.size
      replace hs4 := Nat.lt_of_lt_of_le hs4 hb.size
      replace HN := Lib.hid (HN.out.step hb)
      clear hb
      try dsimp only
      refine hK _ _ ?_
      clear hK K
      refine wpAny_ready (rs := [7]) (by kernel_rfl) (by simp) ?_
      refine AllReady.cons rfl (fun K hK => ?_) AllReady.nil
      go_simp
      refine hK _ _ ?_
      clear hK K
      refine take_at (i := 9) (v := ?_) (some 50) rfl rfl (by kernel_rfl) (by kernel_rfl) (by kernel_rfl) (fun _ _ _ h => h) (Or.inl ⟨by rfl, ?_⟩) ?_
      rotate_left
      · intro w; go_simp; (try with_reducible rfl)
      simp only [Act.put, List.setIfInBounds_toArray, List.set_cons_zero, List.set_cons_succ]
      refine take_at (i := 10) (v := ?_) (some 51) rfl rfl (by kernel_rfl) (by kernel_rfl) (by kernel_rfl) (fun _ _ _ h => h) (Or.inl ⟨by rfl, ?_⟩) ?_
      rotate_left
      · intro w; go_simp; (try with_reducible rfl)
      simp only [Act.put, List.setIfInBounds_toArray, List.set_cons_zero, List.set_cons_succ]
      refine take_at (i := 11) (v := ?_) (some 52) rfl rfl (by kernel_rfl) (by kernel_rfl) (by kernel_rfl) (fun _ _ _ h => h) (Or.inl ⟨by rfl, ?_⟩) ?_
      rotate_left
      · intro w; go_simp; (try with_reducible rfl)
      simp only [Act.put, List.setIfInBounds_toArray, List.set_cons_zero, List.set_cons_succ]
      refine take_at (i := 12) (v := ?_) (some 53) rfl rfl (by kernel_rfl) (by kernel_rfl) (by kernel_rfl) (fun _ _ _ h => h) (Or.inl ⟨by rfl, ?_⟩) ?_
      rotate_left
      · intro w; go_simp; (try with_reducible rfl)
      simp only [Act.put, List.setIfInBounds_toArray, List.set_cons_zero, List.set_cons_succ]
      refine take_at (i := 13) (v := ?_) (some 54) rfl rfl (by kernel_rfl) (by kernel_rfl) (by kernel_rfl) (fun _ _ _ h => h) (Or.inl ⟨by rfl, ?_⟩) ?_
      rotate_left
      · intro w; go_simp; (try with_reducible rfl)
      simp only [Act.put, List.setIfInBounds_toArray, List.set_cons_zero, List.set_cons_succ]
      refine take_at (i := 14) (v := ?_) (some 55) rfl rfl (by kernel_rfl) (by kernel_rfl) (by kernel_rfl) (fun _ _ _ h => h) (Or.inl ⟨by rfl, ?_⟩) ?_
      rotate_left
      · intro w; go_simp; (try with_reducible rfl)
      simp only [Act.put, List.setIfInBounds_toArray, List.set_cons_zero, List.set_cons_succ]
      refine take_at (i := 15) (v := ?_) (some 56) rfl rfl (by kernel_rfl) (by kernel_rfl) (by kernel_rfl) (fun _ _ _ h => h) (Or.inl ⟨by rfl, ?_⟩) ?_
      rotate_left
      · intro w; go_simp; (try with_reducible rfl)
      simp only [Act.put, List.setIfInBounds_toArray, List.set_cons_zero, List.set_cons_succ]
      refine take_at (i := 16) (v := ?_) (some 57) rfl rfl (by kernel_rfl) (by kernel_rfl) (by kernel_rfl) (fun _ _ _ h => h) (Or.inl ⟨by rfl, ?_⟩) ?_
      rotate_left
      · intro w; go_simp; (try with_reducible rfl)
      simp only [Act.put, List.setIfInBounds_toArray, List.set_cons_zero, List.set_cons_succ]
      refine wpAny_ready (rs := [17]) (by kernel_rfl) (by simp) ?_
      refine AllReady.cons rfl (fun K hK => ?_) AllReady.nil
      go_simp
      refine (put_any _ _ _ [gA] G.zero _ HN.out.net (by decide)).mono ?_
      rintro e W' ⟨rfl, hp⟩
      obtain ⟨vv, hh⟩ := HN.out.post hp
      rw [show putCode [gA] G.zero = 1 from by decide]
      rw [show putList [gA] G.zero = [gA] from rfl] at hh
      clear hp HN c0 c1 c2 c3 c4 c5 k0 k1 k2 k3 k4 k5 hs2 hs4
      have HN := Lib.hid hh
      clear hh
      try dsimp only
      refine hK _ _ ?_
      clear hK K
      refine take_at (i := 18) (v := ?_) (some 59) rfl rfl (by kernel_rfl) (by kernel_rfl) (by kernel_rfl) (fun _ _ _ h => h) (Or.inl ⟨by rfl, ?_⟩) ?_
      rotate_left
      · intro w; go_simp; (try with_reducible rfl)
      simp only [Act.put, List.setIfInBounds_toArray, List.set_cons_zero, List.set_cons_succ]
      refine take_at (i := 19) (v := ?_) (some 60) rfl rfl (by kernel_rfl) (by kernel_rfl) (by kernel_rfl) (fun _ _ _ h => h) (Or.inl ⟨by rfl, ?_⟩) ?_
      rotate_left
      · intro w; go_simp; (try with_reducible rfl)
      simp only [Act.put, List.setIfInBounds_toArray, List.set_cons_zero, List.set_cons_succ]
      refine take_at (i := 20) (v := ?_) (some 61) rfl rfl (by kernel_rfl) (by kernel_rfl) (by kernel_rfl) (fun _ _ _ h => h) (Or.inl ⟨by rfl, ?_⟩) ?_
      rotate_left
      · intro w; go_simp; (try with_reducible rfl)
      simp only [Act.put, List.setIfInBounds_toArray, List.set_cons_zero, List.set_cons_succ]
      refine take_at (i := 21) (v := ?_) (some 62) rfl rfl (by kernel_rfl) (by kernel_rfl) (by kernel_rfl) (fun _ _ _ h => h) (Or.inl ⟨by rfl, ?_⟩) ?_
      rotate_left
      · intro w; go_simp; (try with_reducible rfl)
      simp only [Act.put, List.setIfInBounds_toArray, List.set_cons_zero, List.set_cons_succ]
      refine wpAny_ready (rs := [22]) (by kernel_rfl) (by simp) ?_
      refine AllReady.cons rfl (fun K hK => ?_) AllReady.nil
      go_simp
      refine (clear_any _ _ _ [gA] 1 _ HN.out.net).mono ?_
      rintro e W' ⟨rfl, hp⟩
      obtain ⟨vv, hh⟩ := HN.out.post hp
      rw [show clearN [gA] 1 = 1 from by decide]
      rw [show [gA].filter (notOf 1) = [] from rfl] at hh
      clear hp HN
      have HN := Lib.hid hh
      clear hh
      try dsimp only
      refine hK _ _ ?_
      clear hK K
      refine take_at (i := 23) (v := ?_) (some 64) rfl rfl (by kernel_rfl) (by kernel_rfl) (by kernel_rfl) (fun _ _ _ h => h) (Or.inl ⟨by rfl, ?_⟩) ?_
      rotate_left
      · intro w; go_simp; (try with_reducible rfl)
      simp only [Act.put, List.setIfInBounds_toArray, List.set_cons_zero, List.set_cons_succ]
      refine take_at (i := 24) (v := ?_) (some 65) rfl rfl (by kernel_rfl) (by kernel_rfl) (by kernel_rfl) (fun _ _ _ h => h) (Or.inl ⟨by rfl, ?_⟩) ?_
      rotate_left
      · intro w; go_simp; (try with_reducible rfl)
      simp only [Act.put, List.setIfInBounds_toArray, List.set_cons_zero, List.set_cons_succ]
      refine take_at (i := 25) (v := ?_) (some 66) rfl rfl (by kernel_rfl) (by kernel_rfl) (by kernel_rfl) (fun _ _ _ h => h) (Or.inl ⟨by rfl, ?_⟩) ?_
      rotate_left
      · intro w; go_simp; (try with_reducible rfl)
      simp only [Act.put, List.setIfInBounds_toArray, List.set_cons_zero, List.set_cons_succ]
      refine take_at (i := 26) (v := ?_) (some 67) rfl rfl (by kernel_rfl) (by kernel_rfl) (by kernel_rfl) (fun _ _ _ h => h) (Or.inl ⟨by rfl, ?_⟩) ?_
      rotate_left
      · intro w; go_simp; (try with_reducible rfl)
      simp only [Act.put, List.setIfInBounds_toArray, List.set_cons_zero, List.set_cons_succ]
      refine wpAny_ready (rs := [27]) (by kernel_rfl) (by simp) ?_
      refine AllReady.cons rfl (fun K hK => ?_) AllReady.nil
      go_simp
      refine (count_any _ _ _ [] 1 true _ HN.out.net (by decide)).mono ?_
      rintro e W' ⟨rfl, hb⟩
      rw [show cnt [] 1 true = 0 from by decide]
      replace HN := Lib.hid (HN.out.step hb)
      clear hb
      try dsimp only
      refine hK _ _ ?_
      clear hK K
      refine take_at (i := 28) (v := ?_) (some 69) rfl rfl (by kernel_rfl) (by kernel_rfl) (by kernel_rfl) (fun _ _ _ h => h) (Or.inl ⟨by rfl, ?_⟩) ?_
      rotate_left
      · intro w; go_simp; (try with_reducible rfl)
      simp only [Act.put, List.setIfInBounds_toArray, List.set_cons_zero, List.set_cons_succ]
      refine take_at (i := 29) (v := ?_) (some 70) rfl rfl (by kernel_rfl) (by kernel_rfl) (by kernel_rfl) (fun _ _ _ h => h) (Or.inl ⟨by rfl, ?_⟩) ?_
      rotate_left
      · intro w; go_simp; (try with_reducible rfl)
      simp only [Act.put, List.setIfInBounds_toArray, List.set_cons_zero, List.set_cons_succ]
      refine take_at (i := 30) (v := ?_) (some 0) rfl rfl (by kernel_rfl) (by kernel_rfl) (by kernel_rfl) (fun _ _ _ h => h) (Or.inl ⟨by rfl, ?_⟩) ?_
      rotate_left
      · intro w; go_simp; (try with_reducible rfl)
      simp only [Act.put, List.setIfInBounds_toArray, List.set_cons_zero, List.set_cons_succ]
      refine wpAny_done (by kernel_rfl) ?_ _
      go_wp2
      go_ret
      exact ⟨rfl, HN.out.below⟩
  · go_simp
    refine (gram_any _ _).mono ?_
    rintro e W' ⟨rfl, hb⟩
    (first | (with_reducible replace hb := undrew hb) | skip)
    replace c0 := (hb.cell (p := ⟨B2, 0, none⟩) hs2).trans c0
    replace c1 := (hb.cell (p := ⟨B2, 1, none⟩) hs2).trans c1
    replace c2 := (hb.cell (p := ⟨B2, 2, none⟩) hs2).trans c2
    replace c3 := (hb.cell (p := ⟨B2, 3, none⟩) hs2).trans c3
    replace c4 := (hb.cell (p := ⟨B2, 4, none⟩) hs2).trans c4
    replace c5 := (hb.cell (p := ⟨B2, 5, none⟩) hs2).trans c5
    replace k0 := (hb.cell (p := ⟨B4, 0, none⟩) hs4).trans k0
    replace k1 := (hb.cell (p := ⟨B4, 1, none⟩) hs4).trans k1
    replace k2 := (hb.cell (p := ⟨B4, 2, none⟩) hs4).trans k2
    replace k3 := (hb.cell (p := ⟨B4, 3, none⟩) hs4).trans k3
    replace k4 := (hb.cell (p := ⟨B4, 4, none⟩) hs4).trans k4
    replace k5 := (hb.cell (p := ⟨B4, 5, none⟩) hs4).trans k5
    replace hs2 := Nat.lt_of_lt_of_le hs2 hb.size
    replace hs4 := Nat.lt_of_lt_of_le hs4 hb.size
    replace HN := Lib.hid (HN.out.step hb)
    clear hb
    try dsimp only
    refine hK _ _ ?_
    clear hK K
    refine wpAny_ready (rs := [0]) (by kernel_rfl) (by simp) ?_
    refine AllReady.cons rfl (fun K hK => ?_) AllReady.nil
    go_simp
    refine hK _ _ ?_
    clear hK K
    refine take_at (i := 2) (v := ?_) (some 43) rfl rfl (by kernel_rfl) (by kernel_rfl) (by kernel_rfl) (fun _ _ _ h => h) (Or.inl ⟨by rfl, ?_⟩) ?_
    rotate_left
    · intro w; go_simp; (try with_reducible rfl)
    simp only [Act.put, List.setIfInBounds_toArray, List.set_cons_zero, List.set_cons_succ]
    refine take_at (i := 3) (v := ?_) (some 44) rfl rfl (by kernel_rfl) (by kernel_rfl) (by kernel_rfl) (fun _ _ _ h => h) (Or.inl ⟨by rfl, ?_⟩) ?_
    rotate_left
    · intro w; go_simp; (try with_reducible rfl)
    simp only [Act.put, List.setIfInBounds_toArray, List.set_cons_zero, List.set_cons_succ]
    refine take_at (i := 4) (v := ?_) (some 45) rfl rfl (by kernel_rfl) (by kernel_rfl) (by kernel_rfl) (fun _ _ _ h => h) (Or.inl ⟨by rfl, ?_⟩) ?_
    rotate_left
    · intro w; go_simp; (try with_reducible rfl)
    simp only [Act.put, List.setIfInBounds_toArray, List.set_cons_zero, List.set_cons_succ]
    refine take_at (i := 5) (v := ?_) (some 46) rfl rfl (by kernel_rfl) (by kernel_rfl) (by kernel_rfl) (fun _ _ _ h => h) (Or.inl ⟨by rfl, ?_⟩) ?_
    rotate_left
    · intro w; go_simp; (try with_reducible rfl)
    simp only [Act.put, List.setIfInBounds_toArray, List.set_cons_zero, List.set_cons_succ]
    refine take_at (i := 6) (v := ?_) (some 47) rfl rfl (by kernel_rfl) (by kernel_rfl) (by kernel_rfl) (fun _ _ _ h => h) (Or.inl ⟨by rfl, ?_⟩) ?_
    rotate_left
    · intro w; go_simp; (try with_reducible rfl)
    simp only [Act.put, List.setIfInBounds_toArray, List.set_cons_zero, List.set_cons_succ]
    refine wpAny_ready (rs := [7, 8]) (by kernel_rfl) (by simp) ?_
    refine AllReady.cons rfl (fun K hK => ?_) (AllReady.cons rfl (fun K hK => ?_) AllReady.nil)
    · go_simp
      refine hK _ _ ?_
      clear hK K
      refine wpAny_ready (rs := [8]) (by kernel_rfl) (by simp) ?_
      refine AllReady.cons rfl (fun K hK => ?_) AllReady.nil
      go_simp
      refine (gram_any _ _).mono ?_
      rintro e W' ⟨rfl, hb⟩
      (first | (with_reducible replace hb := undrew hb) | skip)
      replace c0 := (hb.cell (p := ⟨B2, 0, none⟩) hs2).trans c0
      replace c1 := (hb.cell (p := ⟨B2, 1, none⟩) hs2).trans c1
      replace c2 := (hb.cell (p := ⟨B2, 2, none⟩) hs2).trans c2
      replace c3 := (hb.cell (p := ⟨B2, 3, none⟩) hs2).trans c3
      replace c4 := (hb.cell (p := ⟨B2, 4, none⟩) hs2).trans c4
      replace c5 := (hb.cell (p := ⟨B2, 5, none⟩) hs2).trans c5
      replace k0 := (hb.cell (p := ⟨B4, 0, none⟩) hs4).trans k0
      replace k1 := (hb.cell (p := ⟨B4, 1, none⟩) hs4).trans k1
      replace k2 := (hb.cell (p := ⟨B4, 2, none⟩) hs4).trans k2
      replace k3 := (hb.cell (p := ⟨B4, 3, none⟩) hs4).trans k3
      replace k4 := (hb.cell (p := ⟨B4, 4, none⟩) hs4).trans k4
      replace k5 := (hb.cell (p := ⟨B4, 5, none⟩) hs4).trans k5
      replace hs2 := Nat.lt_of_lt_of_le hs2 hb.size
      replace hs4 := Nat.lt_of_lt_of_le hs4 hb.size
      replace HN := Lib.hid (HN.out.step hb)
      clear hb
      try dsimp only
      refine hK _ _ ?_
      clear hK K
      refine take_at (i := 9) (v := ?_) (some 50) rfl rfl (by kernel_rfl) (by kernel_rfl) (by kernel_rfl) (fun _ _ _ h => h) (Or.inl ⟨by rfl, ?_⟩) ?_
      rotate_left
      · intro w; go_simp; (try with_reducible rfl)
      simp only [Act.put, List.setIfInBounds_toArray, List.set_cons_zero, List.set_cons_succ]
      refine take_at (i := 10) (v := ?_) (some 51) rfl rfl (by kernel_rfl) (by kernel_rfl) (by kernel_rfl) (fun _ _ _ h => h) (Or.inl ⟨by rfl, ?_⟩) ?_
      rotate_left
      · intro w; go_simp; (try with_reducible rfl)
      simp only [Act.put, List.setIfInBounds_toArray, List.set_cons_zero, List.set_cons_succ]
      refine take_at (i := 11) (v := ?_) (some 52) rfl rfl (by kernel_rfl) (by kernel_rfl) (by kernel_rfl) (fun _ _ _ h => h) (Or.inl ⟨by rfl, ?_⟩) ?_
      rotate_left
      · intro w; go_simp; (try with_reducible rfl)
      simp only [Act.put, List.setIfInBounds_toArray, List.set_cons_zero, List.set_cons_succ]
      refine take_at (i := 12) (v := ?_) (some 53) rfl rfl (by kernel_rfl) (by kernel_rfl) (by kernel_rfl) (fun _ _ _ h => h) (Or.inl ⟨by rfl, ?_⟩) ?_
      rotate_left
      · intro w; go_simp; (try with_reducible rfl)
      simp only [Act.put, List.setIfInBounds_toArray, List.set_cons_zero, List.set_cons_succ]
      refine take_at (i := 13) (v := ?_) (some 54) rfl rfl (by kernel_rfl) (by kernel_rfl) (by kernel_rfl) (fun _ _ _ h => h) (Or.inl ⟨by rfl, ?_⟩) ?_
      rotate_left
      · intro w; go_simp; (try with_reducible rfl)
      simp only [Act.put, List.setIfInBounds_toArray, List.set_cons_zero, List.set_cons_succ]
      refine take_at (i := 14) (v := ?_) (some 55) rfl rfl (by kernel_rfl) (by kernel_rfl) (by kernel_rfl) (fun _ _ _ h => h) (Or.inl ⟨by rfl, ?_⟩) ?_
      rotate_left
      · intro w; go_simp; (try with_reducible rfl)
      simp only [Act.put, List.setIfInBounds_toArray, List.set_cons_zero, List.set_cons_succ]
      refine take_at (i := 15) (v := ?_) (some 56) rfl rfl (by kernel_rfl) (by kernel_rfl) (by kernel_rfl) (fun _ _ _ h => h) (Or.inl ⟨by rfl, ?_⟩) ?_
      rotate_left
      · intro w; go_simp; (try with_reducible rfl)
      simp only [Act.put, List.setIfInBounds_toArray, List.set_cons_zero, List.set_cons_succ]
      refine take_at (i := 16) (v := ?_) (some 57) rfl rfl (by kernel_rfl) (by kernel_rfl) (by kernel_rfl) (fun _ _ _ h => h) (Or.inl ⟨by rfl, ?_⟩) ?_
      rotate_left
      · intro w; go_simp; (try with_reducible rfl)
      simp only [Act.put, List.setIfInBounds_toArray, List.set_cons_zero, List.set_cons_succ]
      refine wpAny_ready (rs := [17]) (by kernel_rfl) (by simp) ?_
      refine AllReady.cons rfl (fun K hK => ?_) AllReady.nil
      go_simp
      refine (put_any _ _ _ [gA] G.zero _ HN.out.net (by decide)).mono ?_
      rintro e W' ⟨rfl, hp⟩
      obtain ⟨vv, hh⟩ := HN.out.post hp
      rw [show putCode [gA] G.zero = 1 from by decide]
      rw [show putList [gA] G.zero = [gA] from rfl] at hh
      clear hp HN c0 c1 c2 c3 c4 c5 k0 k1 k2 k3 k4 k5 hs2 hs4
      have HN := Lib.hid hh
      clear hh
      try dsimp only
      refine hK _ _ ?_
      clear hK K
      refine take_at (i := 18) (v := ?_) (some 59) rfl rfl (by kernel_rfl) (by kernel_rfl) (by kernel_rfl) (fun _ _ _ h => h) (Or.inl ⟨by rfl, ?_⟩) ?_
      rotate_left
      · intro w; go_simp; (try with_reducible rfl)
      simp only [Act.put, List.setIfInBounds_toArray, List.set_cons_zero, List.set_cons_succ]
      refine take_at (i := 19) (v := ?_) (some 60) rfl rfl (by kernel_rfl) (by kernel_rfl) (by kernel_rfl) (fun _ _ _ h => h) (Or.inl ⟨by rfl, ?_⟩) ?_
      rotate_left
      · intro w; go_simp; (try with_reducible rfl)
      simp only [Act.put, List.setIfInBounds_toArray, List.set_cons_zero, List.set_cons_succ]
      refine take_at (i := 20) (v := ?_) (some 61) rfl rfl (by kernel_rfl) (by kernel_rfl) (by kernel_rfl) (fun _ _ _ h => h) (Or.inl ⟨by rfl, ?_⟩) ?_
      rotate_left
      · intro w; go_simp; (try with_reducible rfl)
      simp only [Act.put, List.setIfInBounds_toArray, List.set_cons_zero, List.set_cons_succ]
      refine take_at (i := 21) (v := ?_) (some 62) rfl rfl (by kernel_rfl) (by kernel_rfl) (by kernel_rfl) (fun _ _ _ h => h) (Or.inl ⟨by rfl, ?_⟩) ?_
      rotate_left
      · intro w; go_simp; (try with_reducible rfl)
      simp only [Act.put, List.setIfInBounds_toArray, List.set_cons_zero, List.set_cons_succ]
      refine wpAny_ready (rs := [22]) (by kernel_rfl) (by simp) ?_
      refine AllReady.cons rfl (fun K hK => ?_) AllReady.nil
      go_simp
      refine (clear_any _ _ _ [gA] 1 _ HN.out.net).mono ?_
      rintro e W' ⟨rfl, hp⟩
      obtain ⟨vv, hh⟩ := HN.out.post hp
      rw [show clearN [gA] 1 = 1 from by decide]
      rw [show [gA].filter (notOf 1) = [] from rfl] at hh
      clear hp HN
      have HN := Lib.hid hh
      clear hh
      try dsimp only
      refine hK _ _ ?_
      clear hK K
      refine take_at (i := 23) (v := ?_) (some 64) rfl rfl (by kernel_rfl) (by kernel_rfl) (by kernel_rfl) (fun _ _ _ h => h) (Or.inl ⟨by rfl, ?_⟩) ?_
      rotate_left
      · intro w; go_simp; (try with_reducible rfl)
      simp only [Act.put, List.setIfInBounds_toArray, List.set_cons_zero, List.set_cons_succ]
      refine take_at (i := 24) (v := ?_) (some 65) rfl rfl (by kernel_rfl) (by kernel_rfl) (by kernel_rfl) (fun _ _ _ h => h) (Or.inl ⟨by rfl, ?_⟩) ?_
      rotate_left
      · intro w; go_simp; (try with_reducible rfl)
      simp only [Act.put, List.setIfInBounds_toArray, List.set_cons_zero, List.set_cons_succ]
      refine take_at (i := 25) (v := ?_) (some 66) rfl rfl (by kernel_rfl) (by kernel_rfl) (by kernel_rfl) (fun _ _ _ h => h) (Or.inl ⟨by rfl, ?_⟩) ?_
      rotate_left
      · intro w; go_simp; (try with_reducible rfl)
      simp only [Act.put, List.setIfInBounds_toArray, List.set_cons_zero, List.set_cons_succ]
      refine take_at (i := 26) (v := ?_) (some 67) rfl rfl (by kernel_rfl) (by kernel_rfl) (by kernel_rfl) (fun _ _ _ h => h) (Or.inl ⟨by rfl, ?_⟩) ?_
      rotate_left
      · intro w; go_simp; (try with_reducible rfl)
      simp only [Act.put, List.setIfInBounds_toArray, List.set_cons_zero, List.set_cons_succ]
      refine wpAny_ready (rs := [27]) (by kernel_rfl) (by simp) ?_
      refine AllReady.cons rfl (fun K hK => ?_) AllReady.nil
      go_simp
      refine (count_any _ _ _ [] 1 true _ HN.out.net (by decide)).mono ?_
      rintro e W' ⟨rfl, hb⟩
      rw [show cnt [] 1 true = 0 from by decide]
      replace HN := Lib.hid (HN.out.step hb)
      clear hb
      try dsimp only
      refine hK _ _ ?_
      clear hK K
      refine take_at (i := 28) (v := ?_) (some 69) rfl rfl (by kernel_rfl) (by kernel_rfl) (by kernel_rfl) (fun _ _ _ h => h) (Or.inl ⟨by rfl, ?_⟩) ?_
      rotate_left
      · intro w; go_simp; (try with_reducible rfl)
      simp only [Act.put, List.setIfInBounds_toArray, List.set_cons_zero, List.set_cons_succ]
      refine take_at (i := 29) (v := ?_) (some 70) rfl rfl (by kernel_rfl) (by kernel_rfl) (by kernel_rfl) (fun _ _ _ h => h) (Or.inl ⟨by rfl, ?_⟩) ?_
      rotate_left
      · intro w; go_simp; (try with_reducible rfl)
      simp only [Act.put, List.setIfInBounds_toArray, List.set_cons_zero, List.set_cons_succ]
      refine take_at (i := 30) (v := ?_) (some 0) rfl rfl (by kernel_rfl) (by kernel_rfl) (by kernel_rfl) (fun _ _ _ h => h) (Or.inl ⟨by rfl, ?_⟩) ?_
      rotate_left
      · intro w; go_simp; (try with_reducible rfl)
      simp only [Act.put, List.setIfInBounds_toArray, List.set_cons_zero, List.set_cons_succ]
      refine wpAny_done (by kernel_rfl) ?_ _
      go_wp2
      go_ret
      exact ⟨rfl, HN.out.below⟩
    · go_simp
      refine (gram_any _ _).mono ?_
      rintro e W' ⟨rfl, hb⟩
      (first | (with_reducible replace hb := undrew hb) | skip)
      replace c0 := (hb.cell (p := ⟨B2, 0, none⟩) hs2).trans c0
      replace c1 := (hb.cell (p := ⟨B2, 1, none⟩) hs2).trans c1
      replace c2 := (hb.cell (p := ⟨B2, 2, none⟩) hs2).trans c2
      replace c3 := (hb.cell (p := ⟨B2, 3, none⟩) hs2).trans c3
      replace c4 := (hb.cell (p := ⟨B2, 4, none⟩) hs2).trans c4
      replace c5 := (hb.cell (p := ⟨B2, 5, none⟩) hs2).trans c5
      replace k0 := (hb.cell (p := ⟨B4, 0, none⟩) hs4).trans k0
      replace k1 := (hb.cell (p := ⟨B4, 1, none⟩) hs4).trans k1
      replace k2 := (hb.cell (p := ⟨B4, 2, none⟩) hs4).trans k2
      replace k3 := (hb.cell (p := ⟨B4, 3, none⟩) hs4).trans k3
      replace k4 := (hb.cell (p := ⟨B4, 4, none⟩) hs4).trans k4
      replace k5 := (hb.cell (p := ⟨B4, 5, none⟩) hs4).trans k5
      replace hs2 := Nat.lt_of_lt_of_le hs2 hb.size
      replace hs4 := Nat.lt_of_lt_of_le hs4 hb.size
      replace HN := Lib.hid (HN.out.step hb)
      clear hb
      try dsimp only
      refine hK _ _ ?_
      clear hK K
      refine wpAny_ready (rs := [7]) (by kernel_rfl) (by simp) ?_
      refine AllReady.cons rfl (fun K hK => ?_) AllReady.nil
      go_simp
      refine hK _ _ ?_
      clear hK K
      refine take_at (i := 9) (v := ?_) (some 50) rfl rfl (by kernel_rfl) (by kernel_rfl) (by kernel_rfl) (fun _ _ _ h => h) (Or.inl ⟨by rfl, ?_⟩) ?_
      rotate_left
      · intro w; go_simp; (try with_reducible rfl)
      simp only [Act.put, List.setIfInBounds_toArray, List.set_cons_zero, List.set_cons_succ]
      refine take_at (i := 10) (v := ?_) (some 51) rfl rfl (by kernel_rfl) (by kernel_rfl) (by kernel_rfl) (fun _ _ _ h => h) (Or.inl ⟨by rfl, ?_⟩) ?_
      rotate_left
      · intro w; go_simp; (try with_reducible rfl)
      simp only [Act.put, List.setIfInBounds_toArray, List.set_cons_zero, List.set_cons_succ]
      refine take_at (i := 11) (v := ?_) (some 52) rfl rfl (by kernel_rfl) (by kernel_rfl) (by kernel_rfl) (fun _ _ _ h => h) (Or.inl ⟨by rfl, ?_⟩) ?_
      rotate_left
      · intro w; go_simp; (try with_reducible rfl)
      simp only [Act.put, List.setIfInBounds_toArray, List.set_cons_zero, List.set_cons_succ]
      refine take_at (i := 12) (v := ?_) (some 53) rfl rfl (by kernel_rfl) (by kernel_rfl) (by kernel_rfl) (fun _ _ _ h => h) (Or.inl ⟨by rfl, ?_⟩) ?_
      rotate_left
      · intro w; go_simp; (try with_reducible rfl)
      simp only [Act.put, List.setIfInBounds_toArray, List.set_cons_zero, List.set_cons_succ]
      refine take_at (i := 13) (v := ?_) (some 54) rfl rfl (by kernel_rfl) (by kernel_rfl) (by kernel_rfl) (fun _ _ _ h => h) (Or.inl ⟨by rfl, ?_⟩) ?_
      rotate_left
      · intro w; go_simp; (try with_reducible rfl)
      simp only [Act.put, List.setIfInBounds_toArray, List.set_cons_zero, List.set_cons_succ]
      refine take_at (i := 14) (v := ?_) (some 55) rfl rfl (by kernel_rfl) (by kernel_rfl) (by kernel_rfl) (fun _ _ _ h => h) (Or.inl ⟨by rfl, ?_⟩) ?_
      rotate_left
      · intro w; go_simp; (try with_reducible rfl)
      simp only [Act.put, List.setIfInBounds_toArray, List.set_cons_zero, List.set_cons_succ]
      refine take_at (i := 15) (v := ?_) (some 56) rfl rfl (by kernel_rfl) (by kernel_rfl) (by kernel_rfl) (fun _ _ _ h => h) (Or.inl ⟨by rfl, ?_⟩) ?_
      rotate_left
      · intro w; go_simp; (try with_reducible rfl)
      simp only [Act.put, List.setIfInBounds_toArray, List.set_cons_zero, List.set_cons_succ]
      refine take_at (i := 16) (v := ?_) (some 57) rfl rfl (by kernel_rfl) (by kernel_rfl) (by kernel_rfl) (fun _ _ _ h => h) (Or.inl ⟨by rfl, ?_⟩) ?_
      rotate_left
      · intro w; go_simp; (try with_reducible rfl)
      simp only [Act.put, List.setIfInBounds_toArray, List.set_cons_zero, List.set_cons_succ]
      refine wpAny_ready (rs := [17]) (by kernel_rfl) (by simp) ?_
      refine AllReady.cons rfl (fun K hK => ?_) AllReady.nil
      go_simp
      refine (put_any _ _ _ [gA] G.zero _ HN.out.net (by decide)).mono ?_
      rintro e W' ⟨rfl, hp⟩
      obtain ⟨vv, hh⟩ := HN.out.post hp
      rw [show putCode [gA] G.zero = 1 from by decide]
      rw [show putList [gA] G.zero = [gA] from rfl] at hh
      clear hp HN c0 c1 c2 c3 c4 c5 k0 k1 k2 k3 k4 k5 hs2 hs4
      have HN := Lib.hid hh
      clear hh
      try dsimp only
      refine hK _ _ ?_
      clear hK K
      refine take_at (i := 18) (v := ?_) (some 59) rfl rfl (by kernel_rfl) (by kernel_rfl) (by kernel_rfl) (fun _ _ _ h => h) (Or.inl ⟨by rfl, ?_⟩) ?_
      rotate_left
      · intro w; go_simp; (try with_reducible rfl)
      simp only [Act.put, List.setIfInBounds_toArray, List.set_cons_zero, List.set_cons_succ]
      refine take_at (i := 19) (v := ?_) (some 60) rfl rfl (by kernel_rfl) (by kernel_rfl) (by kernel_rfl) (fun _ _ _ h => h) (Or.inl ⟨by rfl, ?_⟩) ?_
      rotate_left
      · intro w; go_simp; (try with_reducible rfl)
      simp only [Act.put, List.setIfInBounds_toArray, List.set_cons_zero, List.set_cons_succ]
      refine take_at (i := 20) (v := ?_) (some 61) rfl rfl (by kernel_rfl) (by kernel_rfl) (by kernel_rfl) (fun _ _ _ h => h) (Or.inl ⟨by rfl, ?_⟩) ?_
      rotate_left
      · intro w; go_simp; (try with_reducible rfl)
      simp only [Act.put, List.setIfInBounds_toArray, List.set_cons_zero, List.set_cons_succ]
      refine take_at (i := 21) (v := ?_) (some 62) rfl rfl (by kernel_rfl) (by kernel_rfl) (by kernel_rfl) (fun _ _ _ h => h) (Or.inl ⟨by rfl, ?_⟩) ?_
      rotate_left
      · intro w; go_simp; (try with_reducible rfl)
      simp only [Act.put, List.setIfInBounds_toArray, List.set_cons_zero, List.set_cons_succ]
      refine wpAny_ready (rs := [22]) (by kernel_rfl) (by simp) ?_
      refine AllReady.cons rfl (fun K hK => ?_) AllReady.nil
      go_simp
      refine (clear_any _ _ _ [gA] 1 _ HN.out.net).mono ?_
      rintro e W' ⟨rfl, hp⟩
      obtain ⟨vv, hh⟩ := HN.out.post hp
      rw [show clearN [gA] 1 = 1 from by decide]
      rw [show [gA].filter (notOf 1) = [] from rfl] at hh
      clear hp HN
      have HN := Lib.hid hh
      clear hh
      try dsimp only
      refine hK _ _ ?_
      clear hK K
      refine take_at (i := 23) (v := ?_) (some 64) rfl rfl (by kernel_rfl) (by kernel_rfl) (by kernel_rfl) (fun _ _ _ h => h) (Or.inl ⟨by rfl, ?_⟩) ?_
      rotate_left
      · intro w; go_simp; (try with_reducible rfl)
      simp only [Act.put, List.setIfInBounds_toArray, List.set_cons_zero, List.set_cons_succ]
      refine take_at (i := 24) (v := ?_) (some 65) rfl rfl (by kernel_rfl) (by kernel_rfl) (by kernel_rfl) (fun _ _ _ h => h) (Or.inl ⟨by rfl, ?_⟩) ?_
      rotate_left
      · intro w; go_simp; (try with_reducible rfl)
      simp only [Act.put, List.setIfInBounds_toArray, List.set_cons_zero, List.set_cons_succ]
      refine take_at (i := 25) (v := ?_) (some 66) rfl rfl (by kernel_rfl) (by kernel_rfl) (by kernel_rfl) (fun _ _ _ h => h) (Or.inl ⟨by rfl, ?_⟩) ?_
      rotate_left
      · intro w; go_simp; (try with_reducible rfl)
      simp only [Act.put, List.setIfInBounds_toArray, List.set_cons_zero, List.set_cons_succ]
      refine take_at (i := 26) (v := ?_) (some 67) rfl rfl (by kernel_rfl) (by kernel_rfl) (by kernel_rfl) (fun _ _ _ h => h) (Or.inl ⟨by rfl, ?_⟩) ?_
      rotate_left
      · intro w; go_simp; (try with_reducible rfl)
      simp only [Act.put, List.setIfInBounds_toArray, List.set_cons_zero, List.set_cons_succ]
      refine wpAny_ready (rs := [27]) (by kernel_rfl) (by simp) ?_
      refine AllReady.cons rfl (fun K hK => ?_) AllReady.nil
      go_simp
      refine (count_any _ _ _ [] 1 true _ HN.out.net (by decide)).mono ?_
      rintro e W' ⟨rfl, hb⟩
      rw [show cnt [] 1 true = 0 from by decide]
      replace HN := Lib.hid (HN.out.step hb)
      clear hb
      try dsimp only
      refine hK _ _ ?_
      clear hK K
      refine take_at (i := 28) (v := ?_) (some 69) rfl rfl (by kernel_rfl) (by kernel_rfl) (by kernel_rfl) (fun _ _ _ h => h) (Or.inl ⟨by rfl, ?_⟩) ?_
      rotate_left
      · intro w; go_simp; (try with_reducible rfl)
      simp only [Act.put, List.setIfInBounds_toArray, List.set_cons_zero, List.set_cons_succ]
      refine take_at (i := 29) (v := ?_) (some 70) rfl rfl (by kernel_rfl) (by kernel_rfl) (by kernel_rfl) (fun _ _ _ h => h) (Or.inl ⟨by rfl, ?_⟩) ?_
      rotate_left
      · intro w; go_simp; (try with_reducible rfl)
      simp only [Act.put, List.setIfInBounds_toArray, List.set_cons_zero, List.set_cons_succ]
      refine take_at (i := 30) (v := ?_) (some 0) rfl rfl (by kernel_rfl) (by kernel_rfl) (by kernel_rfl) (fun _ _ _ h => h) (Or.inl ⟨by rfl, ?_⟩) ?_
      rotate_left
      · intro w; go_simp; (try with_reducible rfl)
      simp only [Act.put, List.setIfInBounds_toArray, List.set_cons_zero, List.set_cons_succ]
      refine wpAny_done (by kernel_rfl) ?_ _
      go_wp2
      go_ret
      exact ⟨rfl, HN.out.below⟩
end Go.Proofs.Ytgfklingekiflaa
