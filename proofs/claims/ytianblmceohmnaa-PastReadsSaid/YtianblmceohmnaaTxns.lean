/- The keys of a map of transactions: the iterator of maps.Keys, slices.AppendSeq, slices.Collect. -/
import Derived.Test.YtianblmceohmnaaNeeded
import Derived.RangeFuncGives
import Derived.RangeFuncSeq
import Derived.RangeFuncBound
import Derived.Sort.MapsRangeIn
import Derived.Maps.AppendAt
import Derived.OwnWalkIn
import Derived.TacticsInMore
import Derived.RegionIn
import Derived.LoopNIn
import Derived.LoopIn
import Derived.RangeFuncNested
import Derived.RangeFuncLeaves
import Derived.RangeFuncKeeps
import Derived.Shelf.Abstract
namespace Go.Proofs.Ytianblmceohmnaa.Hand
open Go.RowKit Go.Maps Go.Proofs.Ytianblmceohmnaa.PAll Go.Proofs.YtianblmceohmnaaW.PrintWords Go.Proofs.MapF
set_option linter.unusedVariables false
set_option linter.unusedSimpArgs false
set_option maxRecDepth 100000

/-- What is a key at type 24 is a name. -/
theorem key24_inv {v : Value} {kl : Lit} (h : keyOf Try.prog 24 v = some kl) : ∃ t, v = val24 t ∧ wf24 t ∧ kl = KL t := by
  have h0 := h
  unfold keyOf at h
  have hc24 : Try.prog.cellsOf 24 = 3 := by kernel_rfl
  have hc3 : Try.prog.cellsOf 3 = 1 := by kernel_rfl
  obtain ⟨d, hd⟩ : ∃ d, Try.prog.types.size = d + 1 := ⟨Try.prog.types.size - 1, by have : 24 < Try.prog.types.size := row24; omega⟩
  have one : ∀ (a : Value) (r : List Lit), Try.prog.keyLits (d + 1) 3 [a] = some r → ∃ x, a = .int .i64 x ∧ I64 x := fun a r hr => by
    cases a <;> simp [Program.keyLits, Try.underlying3] at hr
    rename_i q m
    obtain ⟨⟨rfl, hw⟩, _⟩ := hr
    refine ⟨m, rfl, ?_⟩
    unfold I64
    simpa [Lit.wf, IntKind.min, IntKind.max, IntKind.bits, IntKind.signed] using hw
  split at h
  · rename_i hu; rw [Try.underlying24] at hu; cases hu
  · rename_i hu
    by_cases hk : (Try.prog.keyType 24 && v.formed Try.prog 24) = true
    · rw [if_pos hk] at h
      rw [Bool.and_eq_true] at hk
      have hf := hk.2
      unfold Value.formed at hf
      simp only [Try.underlying24] at hf
      cases v <;> simp at hf
      rename_i cs
      rw [hc24] at hf
      obtain ⟨a, b, c, rfl⟩ : ∃ a b c, cs = #[a, b, c] := ⟨cs[0], cs[1], cs[2], by apply Array.ext (by simp [hf]); intro i h1 h2; simp at h2; rcases i with _ | _ | _ | i <;> first | rfl | omega⟩
      obtain ⟨ls, hls, _⟩ := Option.map_eq_some_iff.1 h
      rw [hd] at hls
      unfold Program.keyLits at hls
      simp only [Try.underlying24, Value.cells] at hls
      rw [if_pos (by refine ⟨by simp [hc24], by simp⟩)] at hls
      simp [hc3] at hls
      obtain ⟨la, ha, hls⟩ := Option.bind_eq_some_iff.1 hls
      simp only [Function.comp] at hls
      obtain ⟨l2, hls, _⟩ := Option.map_eq_some_iff.1 hls
      obtain ⟨l3, hls, _⟩ := Option.bind_eq_some_iff.1 hls
      obtain ⟨lb, hb, hls⟩ := Option.bind_eq_some_iff.1 hls
      obtain ⟨l4, hls, _⟩ := Option.bind_eq_some_iff.1 hls
      obtain ⟨lc, hc, _⟩ := Option.bind_eq_some_iff.1 hls
      obtain ⟨x, rfl, hx⟩ := one _ _ ha
      obtain ⟨y, rfl, hy⟩ := one _ _ hb
      obtain ⟨z, rfl, hz⟩ := one _ _ hc
      have hw : wf24 ⟨x, y, z⟩ := ⟨hx, hy, hz⟩
      refine ⟨⟨x, y, z⟩, rfl, hw, ?_⟩
      have := keyOf_KL hw
      rw [show val24 ⟨x, y, z⟩ = Value.agg #[.int .i64 x, .int .i64 y, .int .i64 z] from rfl, h0] at this
      exact Option.some.inj this
    · rw [if_neg hk] at h; cases h
  · rename_i h1 h2; exact absurd Try.underlying24 (h2 _)

/-- Which names a map has. -/
def inF (f : Lit → Option Value) (t : S24) : Prop := wf24 t ∧ (f (KL t)).isSome = true
/-- A list of just the map's names, each once. -/
def KeysF (f : Lit → Option Value) (ss : List S24) : Prop := ss.Nodup ∧ ∀ t, t ∈ ss ↔ inF f t
/-- What has come, what is left. -/
def Col (f : Lit → Option Value) (left : Lit → Bool) (ss : List S24) : Prop :=
  ss.Nodup ∧ (∀ t, t ∈ ss ↔ inF f t ∧ left (KL t) = false)
theorem Col.start (f : Lit → Option Value) : Col f (fun kl => (f kl).isSome) [] :=
  ⟨List.nodup_nil, fun t => ⟨fun h => absurd h (by simp), fun h => by
    have h1 := h.1.2
    have h2 : (f (KL t)).isSome = false := h.2
    rw [h1] at h2
    cases h2⟩⟩
theorem Col.step {f : Lit → Option Value} {left : Lit → Bool} {ss : List S24} (h : Col f left ss) {t : S24} (ht : wf24 t) (hl : left (KL t) = true) (hf : (f (KL t)).isSome = true) :
    Col f (fun z => left z && !z.sameKey (KL t)) (ss ++ [t]) := by
  have hk : WideAt.IsKeyLit (KL t) := law24.key (keyOf_KL ht)
  refine ⟨?_, fun u => ?_⟩
  · rw [List.nodup_append]
    refine ⟨h.1, by simp, fun a ha b hb e => ?_⟩
    simp at hb
    subst hb; subst e
    have := ((h.2 a).1 ha).2
    rw [hl] at this
    cases this
  · rw [List.mem_append, h.2 u]
    constructor
    · rintro (⟨h1, h2⟩ | h1)
      · exact ⟨h1, by simp [h2]⟩
      · simp at h1; subst h1
        exact ⟨⟨ht, hf⟩, by simp [WideAt.sameKey_self hk]⟩
    · rintro ⟨h1, h2⟩
      cases hlu : left (KL u) with
      | false => exact .inl ⟨h1, rfl⟩
      | true =>
        simp [hlu] at h2
        exact .inr (by simp; exact KL_inj h1.1 ht (WideAt.sameKey_eq h2))
theorem Col.done {f : Lit → Option Value} {left : Lit → Bool} {ss : List S24} (h : Col f left ss) (hl : ∀ kl, left kl = false) : KeysF f ss :=
  ⟨h.1, fun t => (h.2 t).trans ⟨fun h => h.1, fun h => ⟨h, hl _⟩⟩⟩

theorem ranges_tells {w : World} {b r n : Nat} {D : DataW Value} {f : Lit → Option Value} {left : Lit → Bool} {cnt : Nat} (h : w.ranges Try.prog 24 RV b r n D left cnt) (hT : Tells D f) : Ranges Try.prog 24 w b r n f left cnt := ⟨D, h, hT⟩

set_option maxRecDepth 100000 in
set_option maxHeartbeats 4000000 in
theorem keys41_in (F : Fence) (n : Nat) (h41 : F.fn 41) (hro : F.round = none) (hn : 1 ≤ n) (l Bm b nn : Nat) (f : Lit → Option Value) (J Jx : List S24 → World → Prop)
    (hY : ∀ pre x W, J pre W → pre.length < nn → YieldAt F (n - 1) Try.prog l #[val24 x] W fun e W' => (e = .returned (.bool true) ∧ J (pre ++ [x]) W' ∧ KeepsWalks W W') ∨ (e = .returned (.bool false) ∧ Jx (pre ++ [x]) W'))
    (W : World) (hJ : AbidesFrom W.heap.size J) (hm : W.cell? ⟨Bm, 0, none⟩ = some (.map (some b))) (hM : At Try.prog 24 W b nn f) (h0 : J [] W) :
    CallsIn F n Try.prog 41 #[.func (.yield l) #[] #[], .pointer (some ⟨Bm, 0, none⟩)] W fun e W' => (∃ v, e = .returned v) ∧ ((∃ ss : List S24, (KeysF f ss ∧ ss.length ≤ nn) ∧ J ss W') ∨ (∃ pre : List S24, True ∧ Jx pre W')) := by
  obtain ⟨D, hown, hT⟩ := hM
  have e1 : has D = fun kl => (f kl).isSome := funext hT.2
  refine callsIn_of_wp Try.func41 rfl h41 ?_ hro
  simp only [Try.ntmps41, List.size_toArray, List.length_cons, List.length_nil, Nat.reduceAdd, Nat.reduceSub, Array.replicate_succ, Array.replicate_zero, List.push_toArray, List.append_toArray, List.nil_append, List.cons_append]
  gi_wp2_with (first
    | (gi_at_range; refine wpListIn_range_own _ rfl _ 55 rfl 24 3 law24 Try.underlying55 _ b nn _ rfl hown ?_; intro w0 hrg0 hg0 hs0)
    | gi_in)
  rw [e1] at hrg0
  go_frame
  gi_loopw [3] (fun _ wr => ∃ (left : Lit → Bool) (cnt : Nat) (ss : List S24), wr.ranges Try.prog 24 RV b W.heap.size nn D left cnt ∧ ss.length + cnt ≤ nn ∧ Col f left ss ∧ J ss wr)
    (fun _ wr => wr.rangeLeft b W.heap.size)
  case atStart =>
    exact ⟨_, _, [], hrg0, by have := hown.size_le; simpa using this, Col.start f, hJ [] W w0 none h0 hg0 (fun r e => by cases e)⟩
  case round =>
    obtain ⟨left, cnt, ss, hrg, hcs, hC, hJs⟩ := hrel
    gi_wp2_with (first
      | (gi_at_next; refine wpListIn_next_ranges _ rfl _ rfl 24 law24 RV val24 id (fun key kl hk => by obtain ⟨x, hx, _⟩ := key24_inv hk; exact ⟨x, hx⟩) (fun v _ _ => ⟨v, rfl⟩) b W.heap.size nn _ _ _ rfl hrg ?_ ?_)
      | gi_in)
    · intro hc0 hl0
      gi_wp2
      go_end0
      exact ⟨⟨_, rfl⟩, .inl ⟨ss, ⟨hC.done hl0, by omega⟩, hJs⟩⟩
    · intro x c kl yd yp w2 cnt2 hkey hlk hv hat hrg2 hlt hg2 hs2 hen
      obtain ⟨x', ex, hwx, rfl⟩ := key24_inv hkey
      obtain rfl : x = x' := by cases x; cases x'; simp [val24] at ex; obtain ⟨rfl, rfl, rfl⟩ := ex; rfl
      have hf : (f (KL x)).isSome = true := by
        unfold RV at hv
        simp only [Option.some.injEq, Prod.mk.injEq] at hv
        have hn := hat .nil
        rw [hT.1] at hn
        cases hff : f (KL x) with
        | none => rw [hff] at hn; rw [← hv.1] at hn; cases hn
        | some u => rfl
      have hJ2 : J ss w2 := hJ ss wr w2 (some W.heap.size) hJs hg2 (fun r e => by cases e; exact ⟨Nat.le_refl _, hrg.iter_walk⟩)
      have hab := hJ ss w2 (w2.alloc (.cells #[.int .i64 x.f0, .int .i64 x.f1, .int .i64 x.f2] 24)) none hJ2 (World.grownBy_alloc w2 _ none) (fun r e => by cases e)
      obtain ⟨fn, tmps, assign, body, hy, hR⟩ := hY ss x _ hab (by omega)
      clear hs2
      gi_wp2
      refine hR.mono ?_
      rintro e W3 (⟨rfl, hJ3, hk3⟩ | ⟨rfl, hJx3⟩)
      · gi_wp2
        have hrg3 := (hrg2.of_walks (KeepsWalks.alloc _ _)).of_walks hk3
        go_roundw
        case rel => exact ⟨_, cnt2, ss ++ [x], hrg3, by simp; omega, hC.step hwx hlk hf, hJ3⟩
        case measure => rw [hrg3.left_eq, hrg.left_eq]; exact hlt
      · gi_wp2
        refine bodyPost_ret (results_none rfl _ _ _) rfl ?_
        exact ⟨⟨_, rfl⟩, .inr ⟨_, trivial, hJx3⟩⟩

/-- maps.Keys(m)'s iterator, as a range over it asks. -/
theorem keys41_stops (n : Nat) (hn : 1 ≤ n) (Bm b nn : Nat) (f : Lit → Option Value) (w : World) (hBm : Bm < w.heap.size) (hm : w.cell? ⟨Bm, 0, none⟩ = some (.map (some b))) (hM : At Try.prog 24 w b nn f) :
    SeqStopsK Fence.wide n Try.prog 41 #[.pointer (some ⟨Bm, 0, none⟩)] (fun t => #[.agg #[.int .i64 t.f0, .int .i64 t.f1, .int .i64 t.f2]]) KeepsWalks (fun ss => KeysF f ss ∧ ss.length ≤ nn) (fun _ => True) nn w := fun l J Jx W hW hJ hJx hY h0 =>
  keys41_in Fence.wide n trivial rfl hn l Bm b nn f J Jx hY W hJ ((hW.cell (p := ⟨Bm, 0, none⟩) hBm).trans hm) (hM.below hW) h0

def cells24 (t : S24) : List Value := [.int .i64 t.f0, .int .i64 t.f1, .int .i64 t.f2]
def rows24 (l : List S24) : List Value := l.flatMap cells24
theorem rows24_append (l m : List S24) : rows24 (l ++ m) = rows24 l ++ rows24 m := by simp [rows24]
theorem rows24_length (l : List S24) : (rows24 l).length = l.length * 3 := by
  induction l with
  | nil => rfl
  | cons a l ih => simp [rows24, cells24] at *; omega
theorem info24' : ∃ i, Try.prog.info? 24 = some i ∧ i.zero = some (.agg #[(.int .i64 0), (.int .i64 0), (.int .i64 0)]) ∧ i.size = 3 ∧ i.bytes = 24 := info_parts info24
theorem size24 : (Try.prog.info? 24).map (·.size) = some 3 := by kernel_rfl

theorem cells24_one (x : S24) : ∀ u ∈ cells24 x, u.oneCell' = true := by
  intro u hu
  simp [cells24] at hu
  rcases hu with rfl | rfl | rfl <;> rfl
theorem cells24_new (W : World) (x : S24) : ∀ j u, (cells24 x)[j]? = some u → (W.alloc (.cells #[.int .i64 x.f0, .int .i64 x.f1, .int .i64 x.f2] 24)).cell? ((⟨W.heap.size, 0, none⟩ : Addr).add j) = some u := by
  intro j u hj
  have hc : (W.alloc (.cells #[.int .i64 x.f0, .int .i64 x.f1, .int .i64 x.f2] 24)).heap[W.heap.size]? = some (.cells #[.int .i64 x.f0, .int .i64 x.f1, .int .i64 x.f2] 24 (0, 0)) := World.alloc_heap_new W _
  rw [Addr.add_mid, Nat.zero_add, blk_cell hc j]
  simpa [cells24] using hj
set_option maxRecDepth 100000 in
set_option maxHeartbeats 4000000 in
/-- slices.AppendSeq(nil, maps.Keys(m)) -/
theorem append47_in (n : Nat) (hn : 3 ≤ n) (Bm b nn : Nat) (f : Lit → Option Value) (w : World) (hBm : Bm < w.heap.size) (hm : w.cell? ⟨Bm, 0, none⟩ = some (.map (some b))) (hM : At Try.prog 24 w b nn f) (hnn : nn ≤ 1000) :
    CallsIn Fence.wide n Try.prog 47 #[.slice none 0 0, .func (.func 41) #[] #[.pointer (some ⟨Bm, 0, none⟩)]] w fun e w' =>
      ∃ (v : Value) (ss : List S24), e = .returned v ∧ (KeysF f ss ∧ ss.length ≤ nn) ∧ w'.ownsRow w.heap.size 24 3 v ss.length (rows24 ss) ∧ Below w.heap.size w w' := by
  obtain ⟨i0, hi, hz0, hz1, hz2⟩ := info24'
  refine callsIn_of_wp_marks Try.func47 rfl trivial ?_ rfl
  simp only [Try.ntmps47, List.size_toArray, List.length_cons, List.length_nil, Nat.reduceAdd, Nat.reduceSub, Array.replicate_succ, Array.replicate_zero, List.push_toArray, List.append_toArray, List.nil_append, List.cons_append]
  gi_wp2_with fail
  have hb : Boxed (w.alloc (.cells #[.slice none 0 0] 34)) w.heap.size 34 (.slice none 0 0) := Boxed.new w 34 _
  have hbl : Below w.heap.size w (w.alloc (.cells #[.slice none 0 0] 34)) := (Below.refl _ _).alloc (Nat.le_refl _) _
  have hsz : (w.alloc (.cells #[.slice none 0 0] 34)).heap.size = w.heap.size + 1 := by simp
  have hst := keys41_stops (n - 1) (by omega) Bm b nn f (w.alloc (.cells #[.slice none 0 0] 34)) (by omega) ((hbl.cell (p := ⟨Bm, 0, none⟩) hBm).trans hm) (hM.below hbl)
  obtain ⟨B, hB⟩ : ∃ B, B = w.heap.size := ⟨_, rfl⟩
  generalize w.alloc (.cells #[.slice none 0 0] 34) = W1 at *
  rw [← hB] at hb hsz hbl
  rw [← hB]
  have HBB := Aside0.mk hB
  have hBW : B ≤ W1.heap.size := by omega
  clear hB
  refine wpIn_rangeFunc_ownH rfl (by omega) (gf := 41) (lb := #[.pointer (some ⟨Bm, 0, none⟩)]) rfl trivial (enters_of Try.func41 (by kernel_rfl) rfl)
    hst (fun h k => h.trans k) (fun W l o o' h1 h2 h3 h4 => walksK_b W l o o' h1 h2 h3 h4) (Below.refl _ _) (fun _ => rfl)
    (fun pre W => (∃ v, Boxed W B 34 v ∧ W.ownsRow B 24 3 v pre.length (rows24 pre) ∧ True) ∧ Below B w W) (fun _ _ _ => False)
    ((holdsRow_own B B 34 24 3 (fun pre : List S24 => pre.length) rows24 (fun _ _ => True)).from _ |>.and (ownFrom_below (Nat.le_of_eq HBB.out) hBW)) (fun _ _ _ _ _ h _ _ => h) ⟨⟨_, hb, ⟨rfl, .inl ⟨rfl, rfl⟩⟩, trivial⟩, hbl⟩
    (fun x a' W => ∃ Bx, W.heap[Bx]? = some (.cells #[.int .i64 x.f0, .int .i64 x.f1, .int .i64 x.f2] 24 (0, 0)) ∧ a' = { tmps := #[.slice none 0 0, .func (.func 41) #[] #[.pointer (some ⟨Bm, 0, none⟩)], .pointer (some ⟨B, 0, none⟩), undef, .slice none 0 0, .pointer (some ⟨Bx, 0, none⟩), .func (.func 41) #[] #[.pointer (some ⟨Bm, 0, none⟩)], .agg #[.int .i64 x.f0, .int .i64 x.f1, .int .i64 x.f2], undef, undef, undef, undef, undef], defers := [] })
    ?hAx ?assign ?body ?done ?stop
  case hAx =>
    rintro x a' _ X Y row ⟨Bx, hx, ha⟩ hg hr
    refine ⟨Bx, ?_, ha⟩
    rw [hg.block Bx (Array.getElem?_eq_some_iff.1 hx).1 (fun e => by obtain ⟨_, o, ho, hc⟩ := hr _ e.symm; rw [hx] at ho; cases ho; cases hc)]
    exact hx
  case assign =>
    rintro ln pre x W K ⟨⟨v, hv, hr, _⟩, hbw⟩ hK
    have HV := Aside0.mk hv
    have HR := Aside0.mk hr
    have HW := Aside0.mk hbw
    have hu24 := Try.underlying24
    clear hv hr hbw hb
    gi_wp2_with (rw [Oper.semAt_eq _ _ _ (fun c h => by cases h)]; go_simp; try go_bits)
    exact hK _ _ ((KeepsOthers.alloc _ _).from _) (KeepsWalks.alloc _ _) ⟨⟨v, HV.out.alloc _, HR.out.alloc _, trivial⟩, HW.out.alloc (Nat.le_trans (Nat.le_of_eq HBB.out) HW.out.size) _⟩ ⟨_, World.alloc_heap_new W _, rfl⟩
  case body =>
    have hu34 := Try.underlying34
    have hu24 := Try.underlying24
    rintro ln pre x a' W hln hr ⟨⟨v, hv, hrow, _⟩, hbw⟩ ⟨Bx, hX, rfl⟩ hlt
    have hvc := hv.cell
    have hvf := hv.frozen
    have x0 : W.cell? ⟨Bx, 0, none⟩ = some (.int .i64 x.f0) := by simp [World.cell?, hX]
    have x1 : W.cell? ⟨Bx, 1, none⟩ = some (.int .i64 x.f1) := by simp [World.cell?, hX]
    have x2 : W.cell? ⟨Bx, 2, none⟩ = some (.int .i64 x.f2) := by simp [World.cell?, hX]
    have HV := Aside0.mk hv
    have HR := Aside0.mk hrow
    have HW := Aside0.mk hbw
    clear hv hrow hbw hb hX hr
    gi_wp2_with (first | (gi_at_builtin; refine wpListIn_append_own _ rfl _ _ 34 rfl B 24 i0 _ 3 24 Try.underlying34 hi hz0 hz1 hz2 rfl (by decide) _ _ _ rfl (HR.out.alloc _) ⟨W.heap.size, 0, none⟩ 1 1 (cells24 x) rfl rfl ?cnew ?cone (by unfold maxLen; omega) (by omega) (by have := HW.out.size; have := HBB.out; simp; omega) ?_; (case cnew => exact cells24_new W x); (case cone => exact cells24_one x); intro v' w1 hown' hgrow _; obtain ⟨g', cap', rfl⟩ := ownsRow_succ hown'; obtain ⟨hv1, hv2, hr2, hk2, hb2⟩ := HV.out.appended (by decide) HR.out (Nat.le_trans (Nat.le_of_eq HBB.out) HW.out.size) (Nat.le_refl _) hown' hgrow; have hc1 := hv1.cell; have hf1 := hv1.frozen) | (rw [Oper.semAt_eq _ _ _ (fun c h => by cases h)]; go_simp; try go_bits))
    refine ⟨hk2.from _, ⟨hk2.size, fun k o h ho => hk2.same k o h (by cases o <;> simp [Obj.isWalk, Obj.isCells] at *)⟩, ⟨_, hv2, by rw [rows24_append, List.length_append]; simpa [rows24] using hr2, trivial⟩, HW.out.trans hb2⟩
  case done =>
    have hu34 := Try.underlying34
    rintro D ys W hD hS ⟨⟨v, hv, hrow, _⟩, hB⟩ hK
    have hc := hv.cell
    have HS := Aside0.mk hS
    have HR := Aside0.mk hrow
    have HV := Aside0.mk hv
    clear hS hrow hv
    gi_wp2
    refine ⟨by simp, .inl ⟨_, _, rfl, run_takeDeferred hK, ?_⟩⟩
    exact ⟨_, results_tmp rfl _ _ _, v, ys, rfl, HS.out, by have := ownsRow_putObj HR.out (.deferred none) hK rfl; rw [HBB.out] at this; exact this, HBB.out ▸ hB.trans (belowK_b (w := W1) hBW W D _ (.deferred none) hD hK rfl rfl)⟩
  case stop => exact fun _ _ _ _ _ _ h _ => h.elim

set_option maxHeartbeats 4000000 in
/-- slices.Collect(maps.Keys(m)) -/
theorem collect39_in (n : Nat) (hn : 4 ≤ n) (Bm b nn : Nat) (f : Lit → Option Value) (w : World) (hBm : Bm < w.heap.size) (hm : w.cell? ⟨Bm, 0, none⟩ = some (.map (some b))) (hM : At Try.prog 24 w b nn f) (hnn : nn ≤ 1000) :
    CallsIn Fence.wide n Try.prog 39 #[.func (.func 41) #[] #[.pointer (some ⟨Bm, 0, none⟩)]] w fun e w' =>
      ∃ (v : Value) (ss : List S24), e = .returned v ∧ (KeysF f ss ∧ ss.length ≤ nn) ∧ w'.ownsRow w.heap.size 24 3 v ss.length (rows24 ss) ∧ Below w.heap.size w w' := by
  refine callsIn_of_wp Try.func39 rfl trivial ?_ rfl
  simp only [Try.ntmps39, List.size_toArray, List.length_cons, List.length_nil, Nat.reduceAdd, Nat.reduceSub, Array.replicate_succ, Array.replicate_zero, List.push_toArray, List.append_toArray, List.nil_append, List.cons_append]
  have hc := append47_in (n - 1) (by omega) Bm b nn f w hBm hm hM hnn
  gi_wp2_with fail
  refine ⟨trivial, fun h => by simp [Fence.wide] at h, hc.mono ?_⟩
  rintro e w' ⟨v, ss, rfl, hS, hrow, hb⟩
  gi_wp2
  go_ret
  exact ⟨v, ss, rfl, hS, hrow, hb⟩

set_option maxHeartbeats 4000000 in
/-- maps.Keys(m) -/
theorem keys26 (mb : Option Nat) (w : World) : Calls Try.prog 26 #[.map mb] w fun e w' => e = .returned (.func (.func 41) #[] #[.pointer (some ⟨w.heap.size, 0, none⟩)]) ∧ w' = w.alloc (.cells #[.map mb] 55) := by
  go_enter Try.func26, Try.ntmps26
  go_wp2
  go_ret
  exact ⟨rfl, rfl⟩
end Go.Proofs.Ytianblmceohmnaa.Hand
