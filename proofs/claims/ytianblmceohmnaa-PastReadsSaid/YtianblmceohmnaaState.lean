/- What past.Read holds between two rounds. -/
import Derived.Test.YtianblmceohmnaaInts
import Derived.Deep.AppendLies
namespace Go.Proofs.Ytianblmceohmnaa.Hand
open Go.RowKit Go.Maps Go.Proofs.Ytianblmceohmnaa.PAll Go.Proofs.YtianblmceohmnaaW.PrintWords Go.Proofs.MapF
set_option linter.unusedVariables false
set_option linter.unusedSimpArgs false
set_option maxRecDepth 100000

/-! slices.Contains at names -/
def hasT (l : List S24) (t : S24) : Bool := l.any (fun y => eq24 t y)
theorem index_from (l : List S24) (t : S24) : ∀ (n i : Nat), i + n = l.length → l.length ≤ 1000000 → (∀ j y, j < i → l[j]? = some y → eq24 t y = false) →
    ∃ r : Int, api_Txn_38.l0 (n + 1) l (l.length : Int) (i : Int) t.f0 t.f1 t.f2 = some r ∧ decide (r ≥ 0) = hasT l t
  | 0, i, h, hl, hn => by
    refine ⟨-1, ?_, ?_⟩
    · rw [api_Txn_38.l0, if_neg (by omega)]
    · have : hasT l t = false := by
        unfold hasT
        rw [List.any_eq_false]
        intro y hy
        obtain ⟨j, hj, rfl⟩ := List.getElem_of_mem hy
        simp [hn j _ (by omega) (List.getElem?_eq_getElem hj)]
      rw [this]; rfl
  | n + 1, i, h, hl, hn => by
    have hi : i < l.length := by omega
    have hr : rd_T24 l (i : Int) = l[i] := by simp [rd_T24, List.getD, hi]
    rw [api_Txn_38.l0, if_pos (by omega), if_pos (by omega), if_pos (by omega), hr]
    by_cases he : eq24 t l[i] = true
    · have he' : (t.f0 == l[i].f0 && (t.f1 == l[i].f1 && (t.f2 == l[i].f2))) = true := he
      rw [if_pos he']
      refine ⟨i, rfl, ?_⟩
      have : hasT l t = true := by
        unfold hasT
        rw [List.any_eq_true]
        exact ⟨l[i], by simp, he⟩
      rw [this]; simp
    · have he' : ¬ (t.f0 == l[i].f0 && (t.f1 == l[i].f1 && (t.f2 == l[i].f2))) = true := he
      rw [if_neg he']
      have hw : wrap64 ((i : Int) + 1) = ((i + 1 : Nat) : Int) := by unfold wrap64; omega
      rw [hw]
      refine index_from l t n (i + 1) (by omega) hl (fun j y hj hy => ?_)
      rcases Nat.lt_or_ge j i with h1 | h1
      · exact hn j y h1 hy
      · obtain rfl : j = i := by omega
        rw [List.getElem?_eq_getElem hi] at hy
        cases hy
        simpa using he
theorem contains_some (l : List S24) (t : S24) (hl : l.length ≤ 1000000) : api_Txn_23.f (l.length + 1) l t.f0 t.f1 t.f2 = some (hasT l t) := by
  obtain ⟨r, h1, h2⟩ := index_from l t l.length 0 (by omega) hl (fun j y h => absurd h (by omega))
  unfold api_Txn_23.f api_Txn_38.f
  have h1' : api_Txn_38.l0 (l.length + 1) l (l.length : Int) 0 t.f0 t.f1 t.f2 = some r := h1
  rw [h1']
  simp only [Option.bind_some]
  rw [h2]

/-! Rows -/
theorem reps_take {α : Type} {R : α → List Value → Prop} {enc : α → List Value} {size : Nat} (hk : ∀ x, R x (enc x)) (hs : ∀ x, (enc x).length = size) (l : List α) : ∀ n, n ≤ l.length → Reps R size (l.take n) ((l.take n).flatMap enc)
  | 0, _ => by simpa using Reps.none R size
  | n + 1, h => by
    have e : l.take (n + 1) = l.take n ++ [l[n]] := by rw [List.take_add_one, List.getElem?_eq_getElem (by omega)]; rfl
    rw [e, List.flatMap_append]
    have := (reps_take hk hs l n (by omega)).snoc (hk l[n]) (hs l[n])
    simpa using this
theorem reps_flat {α : Type} {R : α → List Value → Prop} {enc : α → List Value} {size : Nat} (hk : ∀ x, R x (enc x)) (hs : ∀ x, (enc x).length = size) (l : List α) : Reps R size l (l.flatMap enc) := by
  have := reps_take hk hs l l.length (Nat.le_refl _)
  rwa [List.take_length] at this
theorem own_reads {α : Type} {d : Kd α} {enc : α → List Value} (hk : ∀ (w : World) (x : α), d.K w x (enc x)) (hs : ∀ x, (enc x).length = d.sz) {w : World} {base : Nat} {e : TypeId} {A : Option Addr} {n c : Nat} {l : List α}
    (h : w.ownsRow base e d.sz (.slice A n c) l.length (l.flatMap enc)) : n = l.length ∧ l.length ≤ c ∧ d.C w A l.length l := by
  obtain ⟨A', c', e1, hc, hr⟩ := OwnRow.reads (R := d.K w) ⟨_, h, reps_flat (hk w) hs l⟩
  cases e1
  exact ⟨rfl, hc, hr⟩
theorem own_R {α : Type} {d : Kd α} {enc : α → List Value} (hk : ∀ (w : World) (base : Nat) (ok : Nat → Prop) (x : α), d.M w base ok x (enc x)) (hs : ∀ x, (enc x).length = d.sz) {w : World} {base : Nat} {e : TypeId} {v : Value} {l : List α}
    (h : w.ownsRow base e d.sz v l.length (l.flatMap enc)) : d.R e w base (fun _ => True) v l :=
  ⟨fun _ _ => trivial, _, h, reps_flat (hk w base _) hs l⟩

def cells43 (x : S43) : List Value := [.int .i64 x.f0.f0, .int .i64 x.f0.f1, .int .i64 x.f0.f2, .int .i64 x.f1]
def cells45 (x : S45) : List Value := [.int .i64 x.f0, .int .i64 x.f1]
theorem R24 {w : World} {base : Nat} {v : Value} {l : List S24} (h : w.ownsRow base 24 3 v l.length (rows24 l)) : Kd.R k24 24 w base (fun _ => True) v l :=
  own_R (d := k24) (enc := cells24) (fun w base ok x => k24_mkM w base ok x) (fun _ => rfl) h
theorem R43 {w : World} {base : Nat} {v : Value} {l : List S43} (h : w.ownsRow base 43 4 v l.length (l.flatMap cells43)) : Kd.R k43 43 w base (fun _ => True) v l :=
  own_R (d := k43) (enc := cells43) (fun w base ok x => k43_mkM w base ok x) (fun _ => rfl) h
theorem R45 {w : World} {base : Nat} {v : Value} {l : List S45} (h : w.ownsRow base 45 2 v l.length (l.flatMap cells45)) : Kd.R k45 45 w base (fun _ => True) v l :=
  own_R (d := k45) (enc := cells45) (fun w base ok x => k45_mkM w base ok x) (fun _ => rfl) h
theorem C24 {w : World} {base : Nat} {A : Option Addr} {n c : Nat} {l : List S24} (h : w.ownsRow base 24 3 (.slice A n c) l.length (rows24 l)) : n = l.length ∧ l.length ≤ c ∧ Kd.C k24 w A l.length l :=
  own_reads (d := k24) (enc := cells24) (fun w x => k24_mk w x) (fun _ => rfl) h
theorem slice_of {w : World} {base : Nat} {e : TypeId} {size : Nat} {v : Value} {n : Nat} {xs : List Value} (h : w.ownsRow base e size v n xs) : ∃ A c, v = .slice A n c := by
  rcases h.2 with ⟨rfl, h0⟩ | ⟨g, cap, cur, rfl, _⟩
  · exact ⟨none, 0, by rw [h0]⟩
  · exact ⟨_, _, rfl⟩
theorem contains_calls (l : List S24) (t : S24) {w : World} {base : Nat} {A : Option Addr} {c : Nat} (h : w.ownsRow base 24 3 (.slice A l.length c) l.length (rows24 l)) (hl : l.length ≤ 1000000) :
    Calls Try.prog 23 #[.slice A l.length c, .agg #[.int .i64 t.f0, .int .i64 t.f1, .int .i64 t.f2]] w fun e w' => e = .returned (.bool (hasT l t)) ∧ Below w.heap.size w w' := by
  obtain ⟨_, hc, hr⟩ := C24 h
  exact api_Txn_23.calls _ A c l t.f0 t.f1 t.f2 _ w hr hc (contains_some l t hl)

/-! The state. -/
structure RS where
  last : Lit → Option Value
  done : List S24
  pages : Lit → Option Value
noncomputable def rstep (l : List S31) (a : Int) (i : Nat) (x : S31) (s : RS) : RS :=
  if good x then
    { last := if atEnd l x.f1 then s.last else upd s.last (KL x.f1) (some (.int .i64 x.f2)),
      done := if x.f0 == 3 && !hasT s.done x.f1 then s.done ++ [x.f1] else s.done,
      pages := if !(s.pages (.int .i64 x.f4)).isSome && !isEnd x then upd s.pages (.int .i64 x.f4) (some (.int .i64 (a + i))) else s.pages }
  else s
noncomputable def rsAt (l : List S31) (a : Int) : Nat → RS
  | 0 => ⟨fun _ => none, [], fun _ => none⟩
  | i + 1 => match l[i]? with
    | some x => rstep l a i x (rsAt l a i)
    | none => rsAt l a i
theorem rsAt_succ {l : List S31} {a : Int} {i : Nat} {x : S31} (h : l[i]? = some x) : rsAt l a (i + 1) = rstep l a i x (rsAt l a i) := by
  rw [rsAt, h]
theorem rstep_len (l : List S31) (a : Int) (i : Nat) (x : S31) (s : RS) : (rstep l a i x s).done.length ≤ s.done.length + 1 := by
  unfold rstep
  split
  · dsimp only; split <;> simp
  · simp
theorem rsAt_len (l : List S31) (a : Int) : ∀ i, (rsAt l a i).done.length ≤ i
  | 0 => Nat.le_refl _
  | i + 1 => by
    rw [rsAt]
    have := rsAt_len l a i
    cases l[i]? with
    | none => exact Nat.le_succ_of_le this
    | some x => have h2 := rstep_len l a i x (rsAt l a i); dsimp only; omega

abbrev nils : Array Value := #[.slice none 0 0, .slice none 0 0, .slice none 0 0]
/-- Read's blocks: the maps eb, lb, pb; the view's box gv, the result's box rb. -/
structure RdAt (w W : World) (l : List S31) (eb lb pb gv rb n : Nat) (la : Lit → Option Value) (dn : List S24) (pg : Lit → Option Value) (dv : Value) : Prop where
  below : Below w.heap.size w W
  e : At Try.prog 24 W eb l.length (endF l)
  la : At Try.prog 24 W lb n la
  pg : At Try.prog 3 W pb n pg
  v : W.heap[gv]? = some (.cells #[.slice none 0 0, dv, .slice none 0 0] 37 (0, 0))
  r : W.heap[rb]? = some (.cells nils 37 (0, 0))
  d : W.ownsRow w.heap.size 24 3 dv dn.length (rows24 dn)
  el : eb ≠ lb
  ep : eb ≠ pb
  lp : lb ≠ pb
  vr : gv ≠ rb
  bases : w.heap.size ≤ eb ∧ w.heap.size ≤ lb ∧ w.heap.size ≤ pb ∧ w.heap.size ≤ gv ∧ w.heap.size ≤ rb

theorem map_ne {P : Program} {k : TypeId} {W : World} {b n g : Nat} {f : Lit → Option Value} {cs : Array Value} {t : TypeId} {fr : Nat × Nat} (h : At P k W b n f) (hg : W.heap[g]? = some (.cells cs t fr)) : b ≠ g := by
  obtain ⟨es, clock, hb⟩ := h.isMap
  rintro rfl
  rw [hg] at hb
  cases hb
section
variable {w W W' : World} {l : List S31} {eb lb pb gv rb n : Nat} {la : Lit → Option Value} {dn : List S24} {pg : Lit → Option Value} {dv : Value}
theorem own_kept {base : Nat} {e : TypeId} {size m : Nat} {v : Value} {xs : List Value} (h : W.ownsRow base e size v m xs) (hm : ∀ k, v.ownBlock = some k → W'.heap[k]? = W.heap[k]?) : W'.ownsRow base e size v m xs := own_move h hm
theorem RdAt.step (h : RdAt w W l eb lb pb gv rb n la dn pg dv) (hb : Below W.heap.size W W') : RdAt w W' l eb lb pb gv rb n la dn pg dv :=
  ⟨below_step h.below hb, h.e.below hb, h.la.below hb, h.pg.below hb, blk_below h.v hb, blk_below h.r hb, own_move h.d (fun k hk => hb.block k (h.d.lt k hk).2), h.el, h.ep, h.lp, h.vr, h.bases⟩
theorem RdAt.more (h : RdAt w W l eb lb pb gv rb n la dn pg dv) : RdAt w W l eb lb pb gv rb (n + 1) la dn pg dv :=
  ⟨h.below, h.e, h.la.mono (Nat.le_succ _), h.pg.mono (Nat.le_succ _), h.v, h.r, h.d, h.el, h.ep, h.lp, h.vr, h.bases⟩
theorem own_ne {base : Nat} {e : TypeId} {size m : Nat} {v : Value} {xs : List Value} (h : W.ownsRow base e size v m xs) {b : Nat} {o : Obj} (hb : W.heap[b]? = some o) (ho : ∀ cur, o ≠ .cells cur e (0, 0)) {k : Nat} (hk : v.ownBlock = some k) : k ≠ b := by
  obtain ⟨cells, hc⟩ := own_typed h k hk
  rintro rfl
  rw [hc] at hb
  cases hb
  exact ho _ rfl
/-- A block of another kind than the state's has turned. -/
theorem RdAt.kept (h : RdAt w W l eb lb pb gv rb n la dn pg dv) {g : Nat} (hg : W.grownBy W' (some g)) (hw : w.heap.size ≤ g) (h1 : eb ≠ g) (h2 : lb ≠ g) (h3 : pb ≠ g) (h4 : gv ≠ g) (h5 : rb ≠ g) (h6 : ∀ k, dv.ownBlock = some k → k ≠ g) : RdAt w W' l eb lb pb gv rb n la dn pg dv :=
  ⟨h.below.grown hg h.below.size (fun k e => by cases e; exact hw), h.e.kept hg (fun e => h1 (by injection e)), h.la.kept hg (fun e => h2 (by injection e)), h.pg.kept hg (fun e => h3 (by injection e)),
   blk_grown h.v hg (fun e => h4 (by injection e)), blk_grown h.r hg (fun e => h5 (by injection e)), own_move h.d (fun k hk => hg.block k (h.d.lt k hk).2 (fun e => h6 k hk (by injection e))), h.el, h.ep, h.lp, h.vr, h.bases⟩
/-- A box of entries. -/
theorem RdAt.box (h : RdAt w W l eb lb pb gv rb n la dn pg dv) {g t : Nat} {cs : Array Value} (hb : W.heap[g]? = some (.cells cs t (0, 0))) (hw : w.heap.size ≤ g) (hv : gv ≠ g) (hr : rb ≠ g) (ht : t ≠ 24) (hg : W.grownBy W' (some g)) : RdAt w W' l eb lb pb gv rb n la dn pg dv :=
  h.kept hg hw (map_ne h.e hb) (map_ne h.la hb) (map_ne h.pg hb) hv hr (fun k hk => own_ne h.d hb (fun cur e => ht (by cases e; rfl)) hk)
theorem RdAt.putLast (h : RdAt w W l eb lb pb gv rb n la dn pg dv) {f : Lit → Option Value} (hm : At Try.prog 24 W' lb (n + 1) f) (hg : W.grownBy W' (some lb)) : RdAt w W' l eb lb pb gv rb (n + 1) f dn pg dv := by
  obtain ⟨es, clock, hl⟩ := h.la.isMap
  exact ⟨h.below.grown hg h.below.size (fun k e => by cases e; exact h.bases.2.1), h.e.kept hg (fun e => h.el (by injection e)), hm, (h.pg.kept hg (fun e => h.lp (by injection e.symm))).mono (Nat.le_succ _),
   blk_grown h.v hg (fun e => map_ne h.la h.v (by injection e.symm)), blk_grown h.r hg (fun e => map_ne h.la h.r (by injection e.symm)), own_move h.d (fun k hk => hg.block k (h.d.lt k hk).2 (fun e => own_ne h.d hl (fun cur e => by cases e) hk (by injection e))), h.el, h.ep, h.lp, h.vr, h.bases⟩
theorem RdAt.putPage (h : RdAt w W l eb lb pb gv rb n la dn pg dv) {f : Lit → Option Value} (hm : At Try.prog 3 W' pb (n + 1) f) (hg : W.grownBy W' (some pb)) : RdAt w W' l eb lb pb gv rb (n + 1) la dn f dv := by
  obtain ⟨es, clock, hl⟩ := h.pg.isMap
  exact ⟨h.below.grown hg h.below.size (fun k e => by cases e; exact h.bases.2.2.1), h.e.kept hg (fun e => h.ep (by injection e)), (h.la.kept hg (fun e => h.lp (by injection e))).mono (Nat.le_succ _), hm,
   blk_grown h.v hg (fun e => map_ne h.pg h.v (by injection e.symm)), blk_grown h.r hg (fun e => map_ne h.pg h.r (by injection e.symm)), own_move h.d (fun k hk => hg.block k (h.d.lt k hk).2 (fun e => own_ne h.d hl (fun cur e => by cases e) hk (by injection e))), h.el, h.ep, h.lp, h.vr, h.bases⟩
/-- A row of another owner's own has turned, and what is asked of it here is given anew. -/
theorem RdAt.grownRow (h : RdAt w W l eb lb pb gv rb n la dn pg dv) {row : Option Nat} (hg : W.grownBy W' row) (hw : ∀ k, row = some k → w.heap.size ≤ k) (hc : ∀ k, row = some k → ∃ cur, W.heap[k]? = some (.cells cur 24 (0, 0)))
    {dn' : List S24} {dv' : Value} (hd : W'.ownsRow w.heap.size 24 3 dv' dn'.length (rows24 dn')) :
    Below w.heap.size w W' ∧ At Try.prog 24 W' eb l.length (endF l) ∧ At Try.prog 24 W' lb n la ∧ At Try.prog 3 W' pb n pg ∧ W'.heap[gv]? = some (.cells #[.slice none 0 0, dv, .slice none 0 0] 37 (0, 0)) ∧ W'.heap[rb]? = some (.cells nils 37 (0, 0)) := by
  have ne : ∀ {b : Nat} {o : Obj}, W.heap[b]? = some o → (∀ cur, o ≠ .cells cur 24 (0, 0)) → some b ≠ row := fun hb ho e => by
    obtain ⟨cur, h1⟩ := hc _ e.symm
    rw [hb] at h1
    exact ho cur (by injection h1)
  obtain ⟨_, _, he⟩ := h.e.isMap
  obtain ⟨_, _, hl⟩ := h.la.isMap
  obtain ⟨_, _, hp⟩ := h.pg.isMap
  exact ⟨h.below.grown hg h.below.size hw, h.e.kept hg (ne he (fun _ e => by cases e)), h.la.kept hg (ne hl (fun _ e => by cases e)), h.pg.kept hg (ne hp (fun _ e => by cases e)), blk_grown h.v hg (ne h.v (fun _ e => by cases e)), blk_grown h.r hg (ne h.r (fun _ e => by cases e))⟩
theorem RdAt.putDone (h : RdAt w W l eb lb pb gv rb n la dn pg dv) {o : Obj} {t : S24} {v' : Value} (hd : W'.ownsRow w.heap.size 24 3 v' (dn.length + 1) (rows24 dn ++ cells24 t)) (hg : (W.alloc o).grownBy W' dv.ownBlock) :
    W'.heap[gv]? = some (.cells #[.slice none 0 0, dv, .slice none 0 0] 37 (0, 0)) ∧ RdAt w (W'.setCell ⟨gv, 1, none⟩ v') l eb lb pb gv rb n la (dn ++ [t]) pg v' := by
  have h0 := h.step (below_alloc (Below.refl _ _) o)
  have hd' : W'.ownsRow w.heap.size 24 3 v' (dn ++ [t]).length (rows24 (dn ++ [t])) := by
    rw [rows24_append, List.length_append]
    simpa [rows24] using hd
  obtain ⟨b1, b2, b3, b4, b5, b6⟩ := h0.grownRow hg (fun k e => (h0.d.lt k e).1) (fun k e => own_typed h0.d k e) hd'
  refine ⟨b5, ?_⟩
  have hb : ∀ k, k ≠ gv → (W'.setCell ⟨gv, 1, none⟩ v').heap[k]? = W'.heap[k]? := fun k hk => Below.heap_setCell W' _ v' k hk
  have hgl := blk_lt b5
  have hgr : W'.grownBy (W'.setCell ⟨gv, 1, none⟩ v') (some gv) := ⟨rfl, rfl, rfl, by simp [World.setCell], fun k _ hk => hb k (fun e => hk (by rw [e]))⟩
  exact ⟨b1.grown hgr b1.size (fun k e => by cases e; exact h.bases.2.2.2.1), b2.kept hgr (fun e => map_ne b2 b5 (by injection e)), b3.kept hgr (fun e => map_ne b3 b5 (by injection e)), b4.kept hgr (fun e => map_ne b4 b5 (by injection e)),
    blk_put b5 1 v' rfl, blk_grown b6 hgr (fun e => h.vr (by injection e.symm)), own_move hd' (fun k hk => hb k (own_ne hd' b5 (fun _ e => by cases e) hk)), h.el, h.ep, h.lp, h.vr, h.bases⟩
end

/-! Behind the first loop: the view's box holds three slices. -/
structure RdB (w W : World) (lb pb gv rb n : Nat) (la pg : Lit → Option Value) (lv dv pv : Value) (ls : List S43) (dn : List S24) (gs : List S45) : Prop where
  below : Below w.heap.size w W
  la : At Try.prog 24 W lb n la
  pg : At Try.prog 3 W pb n pg
  v : W.heap[gv]? = some (.cells #[lv, dv, pv] 37 (0, 0))
  r : W.heap[rb]? = some (.cells nils 37 (0, 0))
  o : W.ownsRow w.heap.size 43 4 lv ls.length (ls.flatMap cells43)
  d : W.ownsRow w.heap.size 24 3 dv dn.length (rows24 dn)
  q : W.ownsRow w.heap.size 45 2 pv gs.length (gs.flatMap cells45)
  vr : gv ≠ rb
  bases : w.heap.size ≤ gv ∧ w.heap.size ≤ rb
section
variable {w W W' : World} {lb pb gv rb n : Nat} {la pg : Lit → Option Value} {lv dv pv : Value} {ls : List S43} {dn : List S24} {gs : List S45}
theorem RdAt.toB {l : List S31} {eb : Nat} (h : RdAt w W l eb lb pb gv rb n la dn pg dv) : RdB w W lb pb gv rb n la pg (.slice none 0 0) dv (.slice none 0 0) [] dn [] :=
  ⟨h.below, h.la, h.pg, h.v, h.r, own_nil _ _ _ _, h.d, own_nil _ _ _ _, h.vr, h.bases.2.2.2.1, h.bases.2.2.2.2⟩
theorem RdB.step (h : RdB w W lb pb gv rb n la pg lv dv pv ls dn gs) (hb : Below W.heap.size W W') : RdB w W' lb pb gv rb n la pg lv dv pv ls dn gs :=
  ⟨below_step h.below hb, h.la.below hb, h.pg.below hb, blk_below h.v hb, blk_below h.r hb, own_move h.o (fun k hk => hb.block k (h.o.lt k hk).2), own_move h.d (fun k hk => hb.block k (h.d.lt k hk).2), own_move h.q (fun k hk => hb.block k (h.q.lt k hk).2), h.vr, h.bases⟩
/-- A row or a box of type t has turned. -/
theorem RdB.kept (h : RdB w W lb pb gv rb n la pg lv dv pv ls dn gs) {row : Option Nat} {t : TypeId} (hg : W.grownBy W' row) (hw : ∀ k, row = some k → w.heap.size ≤ k) (hc : ∀ k, row = some k → ∃ cur, W.heap[k]? = some (.cells cur t (0, 0))) (ht : t ≠ 37) :
    Below w.heap.size w W' ∧ At Try.prog 24 W' lb n la ∧ At Try.prog 3 W' pb n pg ∧ W'.heap[gv]? = some (.cells #[lv, dv, pv] 37 (0, 0)) ∧ W'.heap[rb]? = some (.cells nils 37 (0, 0)) ∧
      (t ≠ 43 → W'.ownsRow w.heap.size 43 4 lv ls.length (ls.flatMap cells43)) ∧ (t ≠ 24 → W'.ownsRow w.heap.size 24 3 dv dn.length (rows24 dn)) ∧ (t ≠ 45 → W'.ownsRow w.heap.size 45 2 pv gs.length (gs.flatMap cells45)) := by
  have ne : ∀ {b : Nat} {o : Obj}, W.heap[b]? = some o → (∀ cur, o ≠ .cells cur t (0, 0)) → some b ≠ row := fun hb ho e => by
    obtain ⟨cur, h1⟩ := hc _ e.symm
    rw [hb] at h1
    exact ho cur (by injection h1)
  have mv : ∀ {e : TypeId} {size m : Nat} {v : Value} {xs : List Value}, W.ownsRow w.heap.size e size v m xs → t ≠ e → W'.ownsRow w.heap.size e size v m xs := fun ho hte =>
    own_move ho (fun k hk => hg.block k (ho.lt k hk).2 (fun e' => by
      obtain ⟨cells, h1⟩ := own_typed ho k hk
      obtain ⟨cur, h2⟩ := hc k e'.symm
      rw [h1] at h2
      injection h2 with h2
      injection h2 with _ h2
      exact hte h2.symm))
  obtain ⟨_, _, hl⟩ := h.la.isMap
  obtain ⟨_, _, hp⟩ := h.pg.isMap
  exact ⟨h.below.grown hg h.below.size hw, h.la.kept hg (ne hl (fun _ e => by cases e)), h.pg.kept hg (ne hp (fun _ e => by cases e)), blk_grown h.v hg (ne h.v (fun _ e => ht (by cases e; rfl))), blk_grown h.r hg (ne h.r (fun _ e => ht (by cases e; rfl))),
    mv h.o, mv h.d, mv h.q⟩
theorem put_view {v0 v1 v2 u : Value} {cs : Array Value} {j : Nat} (hv : W.heap[gv]? = some (.cells #[v0, v1, v2] 37 (0, 0))) (hc : (#[v0, v1, v2] : Array Value).setIfInBounds j u = cs) :
    (W.setCell ⟨gv, j, none⟩ u).heap[gv]? = some (.cells cs 37 (0, 0)) ∧ W.grownBy (W.setCell ⟨gv, j, none⟩ u) (some gv) := by
  have hb : ∀ k, k ≠ gv → (W.setCell ⟨gv, j, none⟩ u).heap[k]? = W.heap[k]? := fun k hk => Below.heap_setCell W _ u k hk
  exact ⟨blk_put hv j u hc, ⟨rfl, rfl, rfl, by simp [World.setCell], fun k _ hk => hb k (fun e => hk (by rw [e]))⟩⟩
theorem own_past_view {base : Nat} {e : TypeId} {size m : Nat} {v : Value} {xs : List Value} (ho : W.ownsRow base e size v m xs) {cs : Array Value} (hv : W.heap[gv]? = some (.cells cs 37 (0, 0))) (he : e ≠ 37) (hg : W.grownBy W' (some gv)) : W'.ownsRow base e size v m xs :=
  own_move ho (fun k hk => hg.block k (ho.lt k hk).2 (fun e' => own_ne ho hv (fun cur e => he (by cases e; rfl)) hk (by injection e')))
/-- A loser is put behind. -/
theorem RdB.putLoser (h : RdB w W lb pb gv rb n la pg lv dv pv ls dn gs) {o : Obj} {t : S43} {v' : Value} (hd : W'.ownsRow w.heap.size 43 4 v' (ls.length + 1) (ls.flatMap cells43 ++ cells43 t)) (hg : (W.alloc o).grownBy W' lv.ownBlock) :
    W'.heap[gv]? = some (.cells #[lv, dv, pv] 37 (0, 0)) ∧ RdB w (W'.setCell ⟨gv, 0, none⟩ v') lb pb gv rb n la pg v' dv pv (ls ++ [t]) dn gs := by
  have h0 := h.step (below_alloc (Below.refl _ _) o)
  obtain ⟨b1, b2, b3, b4, b5, _, b7, b8⟩ := h0.kept (t := 43) hg (fun k e => (h0.o.lt k e).1) (fun k e => own_typed h0.o k e) (by decide)
  refine ⟨b4, ?_⟩
  obtain ⟨hv, hgr⟩ := put_view (u := v') (j := 0) b4 rfl
  have hd' : W'.ownsRow w.heap.size 43 4 v' (ls ++ [t]).length ((ls ++ [t]).flatMap cells43) := by
    rw [List.flatMap_append, List.length_append]
    simpa using hd
  exact ⟨b1.grown hgr b1.size (fun k e => by cases e; exact h.bases.1), b2.kept hgr (fun e => map_ne b2 b4 (by injection e)), b3.kept hgr (fun e => map_ne b3 b4 (by injection e)), hv, blk_grown b5 hgr (fun e => h.vr (by injection e.symm)),
    own_past_view hd' b4 (by decide) hgr, own_past_view (b7 (by decide)) b4 (by decide) hgr, own_past_view (b8 (by decide)) b4 (by decide) hgr, h.vr, h.bases⟩
/-- A page is put behind. -/
theorem RdB.putFirst (h : RdB w W lb pb gv rb n la pg lv dv pv ls dn gs) {o : Obj} {t : S45} {v' : Value} (hd : W'.ownsRow w.heap.size 45 2 v' (gs.length + 1) (gs.flatMap cells45 ++ cells45 t)) (hg : (W.alloc o).grownBy W' pv.ownBlock) :
    W'.heap[gv]? = some (.cells #[lv, dv, pv] 37 (0, 0)) ∧ RdB w (W'.setCell ⟨gv, 2, none⟩ v') lb pb gv rb n la pg lv dv v' ls dn (gs ++ [t]) := by
  have h0 := h.step (below_alloc (Below.refl _ _) o)
  obtain ⟨b1, b2, b3, b4, b5, b6, b7, _⟩ := h0.kept (t := 45) hg (fun k e => (h0.q.lt k e).1) (fun k e => own_typed h0.q k e) (by decide)
  refine ⟨b4, ?_⟩
  obtain ⟨hv, hgr⟩ := put_view (u := v') (j := 2) b4 rfl
  have hd' : W'.ownsRow w.heap.size 45 2 v' (gs ++ [t]).length ((gs ++ [t]).flatMap cells45) := by
    rw [List.flatMap_append, List.length_append]
    simpa using hd
  exact ⟨b1.grown hgr b1.size (fun k e => by cases e; exact h.bases.1), b2.kept hgr (fun e => map_ne b2 b4 (by injection e)), b3.kept hgr (fun e => map_ne b3 b4 (by injection e)), hv, blk_grown b5 hgr (fun e => h.vr (by injection e.symm)),
    own_past_view (b6 (by decide)) b4 (by decide) hgr, own_past_view (b7 (by decide)) b4 (by decide) hgr, own_past_view hd' b4 (by decide) hgr, h.vr, h.bases⟩
theorem own_past {o : Obj} {base : Nat} {e t : TypeId} {size m : Nat} {v u : Value} {xs : List Value} {row : Option Nat} {cs : Array Value} {j : Nat} (ho : W.ownsRow base e size v m xs) (he : e ≠ t) (he2 : e ≠ 37)
    (hc : ∀ k, row = some k → ∃ cur, W.heap[k]? = some (.cells cur t (0, 0))) (hg : (W.alloc o).grownBy W' row) (hv : W'.heap[gv]? = some (.cells cs 37 (0, 0))) : (W'.setCell ⟨gv, j, none⟩ u).ownsRow base e size v m xs := by
  have h1 : W'.ownsRow base e size v m xs := own_move (ho.alloc o) (fun k hk => hg.block k (by have := (ho.lt k hk).2; simp; omega) (fun e' => by
    obtain ⟨cells, h1⟩ := own_typed ho k hk
    obtain ⟨cur, h2⟩ := hc k e'.symm
    rw [h1] at h2
    injection h2 with h2
    injection h2 with _ h2
    exact he h2))
  have hb : ∀ k, k ≠ gv → (W'.setCell ⟨gv, j, none⟩ u).heap[k]? = W'.heap[k]? := fun k hk => Below.heap_setCell W' _ u k hk
  exact own_move h1 (fun k hk => hb k (own_ne h1 hv (fun cur e => he2 (by cases e; rfl)) hk))
end
end Go.Proofs.Ytianblmceohmnaa.Hand
