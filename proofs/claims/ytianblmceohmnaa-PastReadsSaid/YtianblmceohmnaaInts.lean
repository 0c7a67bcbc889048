/- slices.Sorted(maps.Keys(m)) at a map of numbers. -/
import Derived.Test.YtianblmceohmnaaSorted
namespace Go.Proofs.Ytianblmceohmnaa.Hand
open Go.RowKit Go.Maps Go.Proofs.Ytianblmceohmnaa.PAll Go.Proofs.YtianblmceohmnaaW.PrintWords Go.Proofs.MapF
set_option linter.unusedVariables false
set_option linter.unusedSimpArgs false
set_option maxRecDepth 100000

def KeysZ (f : Lit → Option Value) (ss : List Int) : Prop := ss.Nodup ∧ ∀ x, x ∈ ss ↔ (f (.int .i64 x)).isSome = true

theorem intKeys_keys {w : World} {b n : Nat} {D : DataW Value} {f : Lit → Option Value} (hown : w.ownsMap Try.prog 3 RV b n D) (hT : Tells D f) : KeysZ f (intKeys D) := by
  obtain ⟨es, hD, hpw, _⟩ := hown.entries law3
  obtain ⟨es', hD', hko⟩ := hown.keysOf
  obtain rfl : es = es' := by rw [hD] at hD'; simpa using hD'
  subst hD
  have hk : ∀ p ∈ es, ∃ x, p.1 = .int .i64 x := fun p hp => by
    obtain ⟨v, hv⟩ := hko p hp
    obtain ⟨x, _, hx, _⟩ := Maps.keyOf_i64 Try.underlying3 hv
    exact ⟨x, hx⟩
  have hnd : (intKeys (.map es)).Nodup := by
    show (es.map fun p => _root_.Go.intOf p.1).Nodup
    refine List.pairwise_map.2 (hpw.imp_of_mem fun {p q} hp' hq' hne e => hne ?_)
    obtain ⟨a, ha⟩ := hk p hp'
    obtain ⟨b, hb⟩ := hk q hq'
    rw [ha, hb] at e ⊢
    exact congrArg _ e
  refine ⟨hnd, fun x => ?_⟩
  rw [← hT.2, has_eq, List.any_eq_true]
  show x ∈ es.map (fun p => _root_.Go.intOf p.1) ↔ _
  rw [List.mem_map]
  constructor
  · rintro ⟨p, hp', rfl⟩
    obtain ⟨a, ha⟩ := hk p hp'
    exact ⟨p, hp', by rw [ha]; simp [Lit.sameKey, _root_.Go.intOf]⟩
  · rintro ⟨p, hp', hs⟩
    obtain ⟨a, ha⟩ := hk p hp'
    rw [ha] at hs
    exact ⟨p, hp', by rw [ha]; simpa [Lit.sameKey, _root_.Go.intOf] using hs⟩

theorem keys29 (mb : Option Nat) (w : World) : Calls Try.prog 29 #[.map mb] w fun e w' => e = .returned (.func (.func 46) #[] #[.pointer (some ⟨w.heap.size, 0, none⟩)]) ∧ w' = w.alloc (.cells #[.map mb] 56) := by
  go_enter Try.func29, Try.ntmps29
  go_wp2
  go_ret
  exact ⟨rfl, rfl⟩

theorem sortsZ (m : Nat) : Go.Proofs.AnyZI.SortsIn Try.prog Try.sortedZ_ren Fence.wide m :=
  ⟨fun blk off cap ss W hH hblk hsz => callsIn_wide.2 (Go.Proofs.AnyM.slices_Sort_int Try.sortZ blk off cap ss W hH hblk hsz),
   fun p cap W => callsIn_wide.2 (Go.Proofs.AnyM.slices_Sort_int_none Try.sortZ p cap W)⟩

theorem sorted28 (Bm b nn : Nat) (f : Lit → Option Value) (w : World) (hBm : Bm < w.heap.size) (hm : w.cell? ⟨Bm, 0, none⟩ = some (.map (some b))) (hM : At Try.prog 3 w b nn f) (hnn : nn ≤ 1000) :
    Calls Try.prog 28 #[.func (.func 46) #[] #[.pointer (some ⟨Bm, 0, none⟩)]] w fun e w' =>
      ∃ (v : Value) (ss : List Int), e = .returned v ∧ (KeysZ f ss ∧ ss.length ≤ nn) ∧ ss.Pairwise (· < ·) ∧ w'.ownsRow w.heap.size 3 1 v ss.length (ss.map (Value.int .i64)) ∧ Below w.heap.size w w' := by
  obtain ⟨D, hown, hT⟩ := hM
  have hkz := intKeys_keys hown hT
  have hsz : Maps.size D ≤ 1000 := Nat.le_trans hown.size_le hnn
  have hseq : SeqGives Fence.wide 2 Try.prog 46 #[.pointer (some ⟨Bm, 0, none⟩)] encZ (fun ss => ss.Perm (intKeys D)) (Maps.size D) w :=
    Go.Proofs.AnyZI.keys_gives (ρ := Try.keysZ_ren) { Try.keysZ with } Fence.wide _ trivial rfl (by omega) Bm b nn D w hBm hm hown
  have cS := Go.Proofs.AnyZI.sorted_in Try.sortedZ Fence.wide 5 trivial trivial trivial trivial rfl (by omega) (sortsZ _) (enters_of Try.func45 (by kernel_rfl) rfl) 46 #[.pointer (some ⟨Bm, 0, none⟩)] trivial (enters_of Try.func46 (by kernel_rfl) rfl) _ _ (by unfold maxLen; omega) (by omega) _ hseq
  change CallsIn _ _ Try.prog 28 _ _ _ at cS
  refine (callsIn_wide.1 cS).mono ?_
  rintro e w' ⟨v, ss, rfl, hS, hrow, hnil, hb⟩
  have hp := List.mergeSort_perm ss (fun x y => decide (x ≤ y))
  have hpp : (ss.mergeSort (fun x y => decide (x ≤ y))).Perm (intKeys D) := hp.trans hS
  have hl : (ss.mergeSort (fun x y => decide (x ≤ y))).length = ss.length := hp.length_eq
  refine ⟨v, ss.mergeSort (fun x y => decide (x ≤ y)), rfl, ⟨⟨hpp.nodup_iff.2 hkz.1, fun x => hpp.mem_iff.trans (hkz.2 x)⟩, ?_⟩, ?_, by rw [hl]; exact hrow, hb⟩
  · have h1 := hpp.length_eq
    have h2 : (intKeys D).length = Maps.size D := by
      obtain ⟨es, hD, _, _⟩ := hown.entries law3
      subst hD
      simp [intKeys, Maps.size]
    rw [h1, h2]; exact hown.size_le
  have hpw := List.pairwise_mergeSort (le := fun x y : Int => decide (x ≤ y)) (fun a b c h1 h2 => by simp at *; omega) (fun a b => by simp; omega) ss
  have hnd : (ss.mergeSort (fun x y => decide (x ≤ y))).Nodup := hpp.nodup_iff.2 hkz.1
  refine (hpw.and hnd).imp (fun {a b} h => ?_)
  have h1 := h.1
  have h2 := h.2
  simp at h1
  omega
end Go.Proofs.Ytianblmceohmnaa.Hand
