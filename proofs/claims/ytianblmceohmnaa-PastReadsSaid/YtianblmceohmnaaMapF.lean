/- A map's block as a function from keys to values, whatever the values are: what a look-up, a store, a delete and a range do to it. -/
import Derived.Maps.OwnSet
import Derived.Maps.OwnOps
import Derived.Maps.OwnIn
import Derived.Maps.Ext
import Derived.Maps.RangeWalk
import Derived.Maps.Keyed
import Derived.WalkKit
import Derived.OwnWalk
namespace Go.Proofs.MapF
open Go.Maps Go.RowKit
open Go.WideElems (Fit rd rg pl)
set_option linter.unusedVariables false

/-- A value reads as itself. -/
def RV (v : Value) : Option (DataW Value × List MemPlace) := some (.held v, [])

open Classical in
noncomputable def upd (f : Lit → Option Value) (k : Lit) (v : Option Value) : Lit → Option Value := fun x => if x = k then v else f x
theorem upd_same (f : Lit → Option Value) (k : Lit) (v : Option Value) : upd f k v k = v := by simp [upd]
theorem upd_other (f : Lit → Option Value) {k x : Lit} (v : Option Value) (h : x ≠ k) : upd f k v x = f x := by simp [upd, h]

/-- What a datum tells. -/
def Tells (D : DataW Value) (f : Lit → Option Value) : Prop := (∀ kl z, D.atKey kl z = ((f kl).map DataW.held).getD z) ∧ ∀ kl, has D kl = (f kl).isSome

/-- Block b is a map of at most n entries; f says what stands at each key. -/
def At (P : Program) (k : TypeId) (w : World) (b n : Nat) (f : Lit → Option Value) : Prop := ∃ D : DataW Value, w.ownsMap P k RV b n D ∧ Tells D f

section
variable {P : Program} {k e t : TypeId} {w w' : World} {b n : Nat} {f : Lit → Option Value}

theorem At.made (P : Program) (k : TypeId) (w : World) : At P k (w.alloc (.map #[] 0)) w.heap.size 0 (fun _ => none) :=
  ⟨_, World.ownsMap_made w P k RV, fun _ _ => rfl, fun _ => rfl⟩
theorem At.lt (h : At P k w b n f) : b < w.heap.size := let ⟨_, h1, _⟩ := h; h1.lt
theorem At.mono (h : At P k w b n f) {n' : Nat} (hn : n ≤ n') : At P k w b n' f := let ⟨D, h1, h2⟩ := h; ⟨D, h1.mono hn, h2⟩
theorem At.kept {row : Option Nat} (h : At P k w b n f) (hg : w.grownBy w' row) (hne : some b ≠ row) : At P k w' b n f := let ⟨D, h1, h2⟩ := h; ⟨D, h1.kept hg hne, h2⟩
theorem At.alloc (h : At P k w b n f) (o : Obj) : At P k (w.alloc o) b n f := let ⟨D, h1, h2⟩ := h; ⟨D, h1.alloc o, h2⟩
theorem At.drew (h : At P k w b n f) : At P k w.drew b n f := let ⟨D, h1, h2⟩ := h; ⟨D, h1.drew, h2⟩
theorem At.same (h : At P k w b n f) (hb : w'.heap[b]? = w.heap[b]?) : At P k w' b n f := by
  obtain ⟨D, ⟨es, clock, h1, h2⟩, h3⟩ := h
  exact ⟨D, ⟨es, clock, hb.trans h1, h2⟩, h3⟩
theorem At.below (h : At P k w b n f) (hb : Below w.heap.size w w') : At P k w' b n f := h.same (hb.block b h.lt)
theorem At.isMap (h : At P k w b n f) : ∃ es clock, w.heap[b]? = some (.map es clock) := by
  obtain ⟨D, ⟨es, clock, h1, _⟩, _⟩ := h
  exact ⟨es, clock, h1⟩

/-- 'm[k]' -/
theorem At.look (h : At P k w b n f) (K : Keyed P k) (ht : P.underlying t = some (.map k e)) {z : Value} (hz : (zeroValue e).run P w = .ok z w) {key : Value} {kl : Lit} (hkey : keyOf P k key = some kl) :
    (Instr.lookup t (.map (some b)) key false).run P w = .ok ((f kl).getD z) w := by
  obtain ⟨D, h1, h2, _⟩ := h
  obtain ⟨v, ps, hrun, hv⟩ := h1.lookup K ht hz (zd := .held z) (zp := []) rfl hkey
  rw [hrun, h2] at *
  unfold RV at hv
  cases hf : f kl with
  | none => rw [hf] at hv; simp at hv; rw [hv.1]; rfl
  | some u => rw [hf] at hv; simp at hv; rw [hv.1]; rfl

/-- 'v, ok := m[k]' -/
theorem At.look_ok (h : At P k w b n f) (K : Keyed P k) (ht : P.underlying t = some (.map k e)) {z : Value} (hz : (zeroValue e).run P w = .ok z w) {key : Value} {kl : Lit} (hkey : keyOf P k key = some kl) :
    (Instr.lookup t (.map (some b)) key true).run P w = .ok (.tuple #[(f kl).getD z, .bool (f kl).isSome]) w := by
  obtain ⟨D, h1, h2, h3⟩ := h
  obtain ⟨v, ps, hrun, hv⟩ := h1.look_ok K ht hz (zd := .held z) (zp := []) rfl hkey
  rw [hrun, h3, h2] at *
  unfold RV at hv
  cases hf : f kl with
  | none => rw [hf] at hv; simp at hv; rw [hv.1]; rfl
  | some u => rw [hf] at hv; simp at hv; rw [hv.1]; rfl

theorem Tells.put {D : DataW Value} (h : Tells D f) (hD : IsMap D) {kl : Lit} (hk : WideAt.IsKeyLit kl) (v : Value) : Tells (D.put kl (.held v)) (upd f kl (some v)) := by
  refine ⟨fun x z => ?_, fun x => ?_⟩
  · by_cases hx : x = kl
    · subst hx; rw [atKey_put_same hD hk, upd_same]; rfl
    · rw [atKey_put_other hx, upd_other f _ hx]; exact h.1 x z
  · by_cases hx : x = kl
    · subst hx; rw [has_put_same hD hk, upd_same]; rfl
    · rw [has_put_other hx, upd_other f _ hx]; exact h.2 x

theorem Tells.del {D : DataW Value} (h : Tells D f) (kl : Lit) : Tells (D.del kl) (upd f kl none) := by
  refine ⟨fun x z => ?_, fun x => ?_⟩
  · by_cases hx : x = kl
    · subst hx; rw [atKey_del_same, upd_same]; rfl
    · rw [atKey_del_other hx, upd_other f _ hx]; exact h.1 x z
  · by_cases hx : x = kl
    · subst hx; rw [has_del_same, upd_same]; rfl
    · rw [has_del_other hx, upd_other f _ hx]; exact h.2 x

theorem turned_size (h : w.mapTurned w' b) : w'.heap.size = w.heap.size := by
  obtain ⟨es, clock, es', clock', _, rfl⟩ := h
  simp [ChangeMaps.setBlock]

/-- 'm[k] = v' -/
theorem At.store (h : At P k w b n f) (K : Keyed P k) (ht : P.underlying t = some (.map k e)) (hn : n < maxLen) {key : Value} {kl : Lit} (hkey : keyOf P k key = some kl) (val : Value) :
    ∃ w', (Instr.mapUpdate t (.map (some b)) key val).run P w = .ok () w' ∧ At P k w' b (n + 1) (upd f kl (some val)) ∧ w.grownBy w' (some b) ∧ w'.heap.size = w.heap.size := by
  obtain ⟨D, h1, h2⟩ := h
  obtain ⟨w', hrun, ho, hg⟩ := h1.store K ht hn hkey (val := val) (d := .held val) (ps := []) rfl
  exact ⟨w', hrun, ⟨_, ho, h2.put h1.isMap (K.key hkey) val⟩, hg.grown, turned_size hg⟩

/-- 'delete(m, k)' -/
theorem At.drop (h : At P k w b n f) (K : Keyed P k) (ht : P.underlying t = some (.map k e)) {key : Value} {kl : Lit} (hkey : keyOf P k key = some kl) (ty : TypeId) :
    ∃ w', (Builtin.delete_ #[t, k] ty #[.map (some b), key]).run P w = .ok (.tuple #[]) w' ∧ At P k w' b n (upd f kl none) ∧ w.grownBy w' (some b) ∧ w'.heap.size = w.heap.size := by
  obtain ⟨D, h1, h2⟩ := h
  obtain ⟨w', hrun, ho, hg⟩ := h1.drop K ht hkey ty
  exact ⟨w', hrun, ⟨_, ho, h2.del kl⟩, hg.grown, turned_size hg⟩

/-- A range under way: left says which keys are still to come. -/
def Ranges (P : Program) (k : TypeId) (w : World) (b r n : Nat) (f : Lit → Option Value) (left : Lit → Bool) (cnt : Nat) : Prop := ∃ D : DataW Value, w.ranges P k RV b r n D left cnt ∧ Tells D f

theorem Ranges.at {r cnt : Nat} {left : Lit → Bool} (h : Ranges P k w b r n f left cnt) : At P k w b n f := let ⟨D, h1, h2⟩ := h; ⟨D, h1.owns, h2⟩
theorem Ranges.left_eq {r cnt : Nat} {left : Lit → Bool} (h : Ranges P k w b r n f left cnt) : w.rangeLeft b r = cnt := let ⟨_, h1, _⟩ := h; h1.left_eq
theorem Ranges.ne {r cnt : Nat} {left : Lit → Bool} (h : Ranges P k w b r n f left cnt) : r ≠ b := let ⟨_, h1, _⟩ := h; h1.ne
theorem Ranges.lt {r cnt : Nat} {left : Lit → Bool} (h : Ranges P k w b r n f left cnt) : r < w.heap.size := let ⟨_, h1, _⟩ := h; h1.lt
theorem Ranges.kept {r cnt : Nat} {left : Lit → Bool} {row : Option Nat} (h : Ranges P k w b r n f left cnt) (hg : w.grownBy w' row) (hb : some b ≠ row) (hr : some r ≠ row) : Ranges P k w' b r n f left cnt :=
  let ⟨D, h1, h2⟩ := h; ⟨D, h1.kept hg hb hr, h2⟩
theorem Ranges.alloc {r cnt : Nat} {left : Lit → Bool} (h : Ranges P k w b r n f left cnt) (o : Obj) : Ranges P k (w.alloc o) b r n f left cnt := let ⟨D, h1, h2⟩ := h; ⟨D, h1.alloc o, h2⟩

theorem At.range (h : At P k w b n f) (K : Keyed P k) (ht : P.underlying t = some (.map k e)) :
    ∃ w' cnt, (Instr.range t (.map (some b))).run P w = .ok (.pointer (some ⟨w.heap.size, 0, none⟩)) w' ∧ Ranges P k w' b w.heap.size n f (fun kl => (f kl).isSome) cnt ∧ cnt ≤ n ∧ w.grownBy w' none ∧ w'.heap.size = w.heap.size + 1 := by
  obtain ⟨D, h1, h2⟩ := h
  obtain ⟨w', hrun, hr, hg, hs⟩ := h1.range K ht
  have e1 : has D = fun kl => (f kl).isSome := funext h2.2
  rw [e1] at hr
  exact ⟨w', _, hrun, ⟨D, hr, h2⟩, h1.size_le, hg, hs⟩

/-- The step of a range. -/
theorem Ranges.next {r cnt : Nat} {left : Lit → Bool} (h : Ranges P k w b r n f left cnt) (K : Keyed P k) (ty : TypeId) :
    (cnt = 0 ∧ (∀ kl, left kl = false) ∧ (Instr.next (.pointer (some ⟨r, 0, none⟩)) false ty).run P w = .ok (.tuple #[.bool false]) w) ∨
    ∃ key v kl w' cnt', keyOf P k key = some kl ∧ left kl = true ∧ f kl = some v ∧ (Instr.next (.pointer (some ⟨r, 0, none⟩)) false ty).run P w = .ok (.tuple #[.bool true, key, v]) w' ∧
      Ranges P k w' b r n f (fun x => left x && !x.sameKey kl) cnt' ∧ cnt' < cnt ∧ w.grownBy w' (some r) ∧ w'.heap.size = w.heap.size ∧ (Instr.entry (.pointer (some ⟨r, 0, none⟩))).run P w' = .ok (.tuple #[key, v]) w' := by
  obtain ⟨D, h1, h2⟩ := h
  rcases h1.next K ty with h3 | ⟨key, v, kl, y, w', cnt', hkey, hl, hR, hat, hrun, hr', hc, hg, hs, hen⟩
  · exact .inl h3
  · refine .inr ⟨key, v, kl, w', cnt', hkey, hl, ?_, hrun, ⟨D, hr', h2⟩, hc, hg, hs, hen⟩
    unfold RV at hR
    simp only [Option.some.injEq] at hR
    subst hR
    have hn := hat .nil
    rw [h2.1] at hn
    cases hf : f kl with
    | none => rw [hf] at hn; cases hn
    | some u => rw [hf] at hn; simp at hn; rw [hn]
end

/-- 'm[k] = v' at the operation, for the walk. -/
theorem wpList_store {P : Program} (w : World) {ops : Array Oper} {rest : List Oper} {o : Oper} {a : Act} {Q : Exit → Act → World → Prop}
    (hg : o.guard = none) (m x v : Operand) (t : TypeId) (hop : o.op = Op.mapUpdate t m x v)
    (k e : TypeId) (K : Keyed P k) (ht : P.underlying t = some (.map k e)) (b n : Nat) (f : Lit → Option Value)
    (hm : a.eval m = .map (some b)) (hown : At P k w b n f) (hn : n < maxLen) (key val : Value) (kl : Lit) (hx : a.eval x = key) (hv : a.eval v = val) (hkey : keyOf P k key = some kl)
    (hK : ∀ w', At P k w' b (n + 1) (upd f kl (some val)) → w.grownBy w' (some b) → w'.heap.size = w.heap.size → wpList P ops Q rest (a.put o.dst undef) w') :
    wpList P ops Q (o :: rest) a w := by
  refine wpList_plain hg fun K' hK' => ?_
  obtain ⟨w', hrun, r1, r2, r3⟩ := hown.store K ht hn hkey val
  unfold Oper.wp
  simp [execOp, hop, hm, hx, hv, hrun, Result.andThen]
  exact hK' _ _ (hK w' r1 r2 r3)
end Go.Proofs.MapF
