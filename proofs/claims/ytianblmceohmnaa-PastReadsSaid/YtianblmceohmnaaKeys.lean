/- The transactions' names as a map's keys; entries read; which are good, and which are ends. -/
import Derived.Test.YtianblmceohmnaaMapF
import Derived.Test.YtianblmceohmnaaPAllx7
import Derived.Test.YtianblmceohmnaaPAllx8
import Derived.WideKeyArgs
import Derived.DeepKeys4
import Derived.Lib.Hide
import Derived.Outline
namespace Go.Proofs.Ytianblmceohmnaa.Hand
open Go.RowKit Go.Maps Go.Proofs.Ytianblmceohmnaa.PAll Go.Proofs.YtianblmceohmnaaW.PrintWords
set_option linter.unusedVariables false
set_option linter.unusedSimpArgs false
set_option maxRecDepth 100000

abbrev val24 (t : S24) : Value := .agg #[.int .i64 t.f0, .int .i64 t.f1, .int .i64 t.f2]
def I64 (x : Int) : Prop := -9223372036854775808 ≤ x ∧ x ≤ 9223372036854775807
def wf24 (t : S24) : Prop := I64 t.f0 ∧ I64 t.f1 ∧ I64 t.f2

theorem laidOut : laidOutB Try.prog = true := by kernel_rfl
theorem row24 : (24 : TypeId) < Try.prog.types.size := of_decide_eq_true (by kernel_rfl)
theorem wide24 : (match Try.prog.underlying 24 with | some (.array _ _) | some (.struct _) => true | _ => false) = true := by rw [Try.underlying24]
theorem law24 : Keyed Try.prog 24 := Keyed.of_law (deep_law_laid laidOut (m := 2) (by omega) row24 (by kernel_rfl) wide24)
theorem law3 : Keyed Try.prog 3 := int_keyed Try.underlying3
theorem kt24 : Try.prog.keyType 24 = true := by kernel_rfl

theorem wf_of {x : Int} (h : I64 x) : (Lit.int .i64 x).wf = true := by
  unfold I64 at h
  exact WalkArith.wf_i64 h

theorem key24_ex (t : S24) (h : wf24 t) : ∃ kl, keyOf Try.prog 24 (val24 t) = some kl := by
  obtain ⟨h0, h1, h2⟩ := h
  have w0 := wf_of h0
  have w1 := wf_of h1
  have w2 := wf_of h2
  obtain ⟨d, hd⟩ : ∃ d, Try.prog.types.size = d + 1 := ⟨Try.prog.types.size - 1, by have : 24 < Try.prog.types.size := row24; omega⟩
  have hc24 : Try.prog.cellsOf 24 = 3 := by kernel_rfl
  have hc3 : Try.prog.cellsOf 3 = 1 := by kernel_rfl
  have k : ∀ x : Int, (Lit.int .i64 x).wf = true → Try.prog.keyLits (d + 1) 3 [.int .i64 x] = some [.int .i64 x] := fun x hx => by
    simp [Program.keyLits, Try.underlying3, hx]
  have hf : (val24 t).formed Try.prog 24 = true := by simp [Value.formed, Try.underlying24, hc24]
  have hl : ∃ ls, Try.prog.keyLits (Try.prog.types.size + 1) 24 [.int .i64 t.f0, .int .i64 t.f1, .int .i64 t.f2] = some ls := by
    rw [hd]
    refine ⟨[.int .i64 t.f0, .int .i64 t.f1, .int .i64 t.f2], ?_⟩
    unfold Program.keyLits
    simp only [Try.underlying24]
    rw [if_pos (by refine ⟨by simp [hc24], by simp⟩)]
    simp [hc3, k _ w0, k _ w1, k _ w2]
  obtain ⟨ls, hl⟩ := hl
  exact ⟨.string (keyBytes ls), by
    unfold keyOf
    split
    · rename_i h; rw [Try.underlying24] at h; cases h
    · rw [if_pos (by rw [kt24, hf]; rfl)]
      show Option.map _ (Try.prog.keyLits (Try.prog.types.size + 1) 24 [.int .i64 t.f0, .int .i64 t.f1, .int .i64 t.f2]) = _
      rw [hl]; rfl
    · rename_i h1 h2; exact absurd Try.underlying24 (h2 _)⟩

noncomputable def KL (t : S24) : Lit := (keyOf Try.prog 24 (val24 t)).getD (.bool false)
theorem keyOf_KL {t : S24} (h : wf24 t) : keyOf Try.prog 24 (val24 t) = some (KL t) := by
  obtain ⟨kl, hk⟩ := key24_ex t h
  unfold KL; rw [hk]; rfl
theorem KL_inj {t u : S24} (h : wf24 t) (k : wf24 u) (e : KL t = KL u) : t = u := by
  have h1 := keyOf_KL h
  have h2 := keyOf_KL k
  rw [← e] at h2
  have := law24.inj h1 h2
  cases t; cases u
  simp [val24] at this
  obtain ⟨rfl, rfl, rfl⟩ := this
  rfl

/-! Entries. -/
theorem cells31 {w : World} {A : Option Addr} {n : Nat} {xs : List S31} (h : Kd.C k31 w A n xs) {i : Nat} {x : S31} (hx : xs[i]? = some x) (hi : i < n) :
    ∃ ad, A = some ad ∧ ∀ j u, [Value.int .i64 x.f0, .int .i64 x.f1.f0, .int .i64 x.f1.f1, .int .i64 x.f1.f2, .int .i64 x.f2, .int .i64 x.f3, .int .i64 x.f4, .int .i64 x.f5, .bool x.f6.f0, .string x.f6.f1, .bool x.f7.f0, .string x.f7.f1, .int .i64 x.f8][j]? = some u → w.cell? (ad.add (i * 13 + j)) = some u := by
  obtain ⟨ad, c, e, _, hK, hc⟩ := Kd.C_get h z31 (i : Int) (by omega) (by omega)
  obtain rfl := k31_open hK
  refine ⟨ad, e, fun j u hu => ?_⟩
  have hz : xs.getD ((i : Int)).toNat z31 = x := by simp [List.getD, hx]
  have := hc j u (by rw [hz]; exact hu)
  have hk : k31.sz = 13 := rfl
  rw [hk] at this
  simpa using this

/-! Which are good, which are ends. -/
theorem isb {A B : Type} {o : Option A} {f : A → Option B} (h : o.isSome = true) (g : ∀ a, (f a).isSome = true) : (o.bind f).isSome = true := by
  cases o with
  | none => simp at h
  | some a => exact g a
theorem within_is (a b c : Int) : (entry_within.f a b c).isSome = true := by
  unfold entry_within.f; split <;> rfl
theorem slot_is (a : Bool) (b : ByteArray) : (entry_isSlot.f a b).isSome = true := by
  unfold entry_isSlot.f; repeat' split
  all_goals rfl
theorem known_is (a b c : Int) : (entry_Known.f a b c).isSome = true := by
  unfold entry_Known.f
  repeat' first | rfl | exact within_is _ _ _ | refine isb (within_is _ _ _) fun _ => ?_ | split
theorem j2_is (k : Nat) (x61 : Bool) (a b c d e f g h : Int) (i : Bool) (j : ByteArray) (l : Bool) (m : ByteArray) (n : Int) : (entry_Good.j2 (k + 1) x61 a b c d e f g h i j l m n).isSome = true := by
  rw [entry_Good.j2]
  repeat' first | rfl | split
theorem j1_is (k : Nat) (x61 : Bool) (a b c d e f g h : Int) (i : Bool) (j : ByteArray) (l : Bool) (m : ByteArray) (n : Int) : (entry_Good.j1 (k + 2) x61 a b c d e f g h i j l m n).isSome = true := by
  rw [entry_Good.j1]
  repeat' first | rfl | exact j2_is _ _ _ _ _ _ _ _ _ _ _ _ _ _ _ | refine isb (within_is _ _ _) fun _ => ?_ | split
theorem j0_is (k : Nat) (x61 : Bool) (a b c d e f g h : Int) (i : Bool) (j : ByteArray) (l : Bool) (m : ByteArray) (n : Int) : (entry_Good.j0 (k + 3) x61 a b c d e f g h i j l m n).isSome = true := by
  rw [entry_Good.j0]
  repeat' first | rfl | exact j1_is _ _ _ _ _ _ _ _ _ _ _ _ _ _ _ | refine isb (within_is _ _ _) fun _ => ?_ | refine isb (slot_is _ _) fun _ => ?_ | split

def good (x : S31) : Bool := (entry_Good.f 3 x.f0 x.f1.f0 x.f1.f1 x.f1.f2 x.f2 x.f3 x.f4 x.f5 x.f6.f0 x.f6.f1 x.f7.f0 x.f7.f1 x.f8).getD false
theorem good_some (x : S31) : entry_Good.f 3 x.f0 x.f1.f0 x.f1.f1 x.f1.f2 x.f2 x.f3 x.f4 x.f5 x.f6.f0 x.f6.f1 x.f7.f0 x.f7.f1 x.f8 = some (good x) := by
  unfold good
  have : (entry_Good.f 3 x.f0 x.f1.f0 x.f1.f1 x.f1.f2 x.f2 x.f3 x.f4 x.f5 x.f6.f0 x.f6.f1 x.f7.f0 x.f7.f1 x.f8).isSome = true := by
    unfold entry_Good.f
    repeat' first | exact j0_is 0 _ _ _ _ _ _ _ _ _ _ _ _ _ _ | refine isb (known_is _ _ _) fun _ => ?_ | refine isb (within_is _ _ _) fun _ => ?_ | split
  revert this
  cases entry_Good.f 3 x.f0 x.f1.f0 x.f1.f1 x.f1.f2 x.f2 x.f3 x.f4 x.f5 x.f6.f0 x.f6.f1 x.f7.f0 x.f7.f1 x.f8 <;> simp
def isEnd (x : S31) : Bool := x.f0 == 3 || x.f0 == 4
theorem isEnd_some (x : S31) : past_isEnd.f x.f0 x.f1.f0 x.f1.f1 x.f1.f2 x.f2 x.f3 x.f4 x.f5 x.f6.f0 x.f6.f1 x.f7.f0 x.f7.f1 x.f8 = some (isEnd x) := by
  unfold past_isEnd.f isEnd
  split
  · rename_i h; rw [h]; rfl
  · rename_i h; rw [beq_eq_false_iff_ne.2 h]; rfl

abbrev val31 (x : S31) : Value := .agg #[.int .i64 x.f0, .int .i64 x.f1.f0, .int .i64 x.f1.f1, .int .i64 x.f1.f2, .int .i64 x.f2, .int .i64 x.f3, .int .i64 x.f4, .int .i64 x.f5, .bool x.f6.f0, .string x.f6.f1, .bool x.f7.f0, .string x.f7.f1, .int .i64 x.f8]
theorem good_calls (x : S31) (w : World) : Calls Try.prog 18 #[val31 x] w fun e w' => e = .returned (.bool (good x)) ∧ Below w.heap.size w w' :=
  entry_Good.calls 3 _ _ _ _ _ _ _ _ _ _ _ _ _ _ w (good_some x)
theorem isEnd_calls (x : S31) (w : World) : Calls Try.prog 24 #[val31 x] w fun e w' => e = .returned (.bool (isEnd x)) ∧ Below w.heap.size w w' :=
  past_isEnd.calls _ _ _ _ _ _ _ _ _ _ _ _ _ _ w (isEnd_some x)

/-! A good entry's name and kind. -/
theorem known_of {a b c : Int} (h : entry_Known.f a b c = some true) : (1 ≤ a ∧ a ≤ 8) ∧ (1 ≤ b ∧ b ≤ 1073741824) ∧ 1 ≤ c ∧ c ≤ 1073741824 := by
  unfold entry_Known.f entry_within.f at h
  by_cases h1 : 1 ≤ a <;> by_cases h2 : a ≤ 8 <;> by_cases h3 : 1 ≤ b <;> by_cases h4 : b ≤ 1073741824 <;> by_cases h5 : 1 ≤ c <;> by_cases h6 : c ≤ 1073741824 <;> simp [h1, h2, h3, h4, h5, h6] at h ⊢
theorem good_known {x : S31} (h : good x = true) : entry_Known.f x.f1.f0 x.f1.f1 x.f1.f2 = some true := by
  have g := good_some x
  rw [h] at g
  unfold entry_Good.f at g
  have ki := known_is x.f1.f0 x.f1.f1 x.f1.f2
  cases hk : entry_Known.f x.f1.f0 x.f1.f1 x.f1.f2 with
  | none => rw [hk] at ki; simp at ki
  | some b =>
    cases b
    · rw [hk] at g
      simp [entry_Good.j0] at g
    · rfl
theorem good_wf {x : S31} (h : good x = true) : wf24 x.f1 := by
  obtain ⟨⟨_, _⟩, ⟨_, _⟩, _, _⟩ := known_of (good_known h)
  refine ⟨?_, ?_, ?_⟩ <;> constructor <;> omega
end Go.Proofs.Ytianblmceohmnaa.Hand
