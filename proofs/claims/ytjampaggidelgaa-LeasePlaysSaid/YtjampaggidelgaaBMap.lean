/- A map of whole numbers to bools that the call made: what it says of each number. -/
import Derived.Test.YtjampaggidelgaaTimes
import Derived.Maps.Own
import Derived.Maps.Views
namespace Go.Proofs.Ytjampaggidelgaa
open Go.RowKit
set_option linter.unusedSimpArgs false
set_option linter.unusedVariables false

theorem lawKey : Go.Maps.Keyed Try.prog 3 := Go.Maps.int_keyed Try.underlying3
theorem zeroBool (w : World) : (zeroValue 4).run Try.prog w = .ok (.bool false) w := by kernel_rfl
theorem plain_bool_inv {v : Value} {x : Bool} {ps : List MemPlace} (h : plainElem (H := Unit) Try.prog 4 v = some (.lit (.bool x), ps)) : v = .bool x := by
  unfold plainElem at h
  rw [Try.underlying4] at h
  cases v <;> simp at h
  rw [h.1]
theorem key_int {i : Nat} (h : i < 100) : keyOf Try.prog 3 (.int .i64 i) = some (.int .i64 i) :=
  Go.Maps.keyOf_int_mk Try.underlying3 (by simp [Lit.wf, IntKind.min, IntKind.max, IntKind.bits, IntKind.signed]; omega)
/-- Block b is a map of at most n entries; of each small number it says f. -/
def BMap (w : World) (b n : Nat) (f : Nat → Bool) : Prop :=
  ∃ D : DataW Unit, w.ownsMap Try.prog 3 (plainElem Try.prog 4) b n D ∧ ∀ i : Nat, i < 100 → D.atKey (.int .i64 i) (.lit (.bool false)) = .lit (.bool (f i))
section
variable {w w' : World} {b n : Nat} {f : Nat → Bool}
theorem BMap.new (w : World) : BMap (w.alloc (.map #[] 0)) w.heap.size 0 (fun _ => false) := ⟨_, World.ownsMap_made w _ _ _, fun _ _ => rfl⟩
theorem BMap.lt (h : BMap w b n f) : b < w.heap.size := by obtain ⟨D, h, _⟩ := h; exact h.lt
theorem BMap.kept {row : Option Nat} (h : BMap w b n f) (hg : w.grownBy w' row) (hne : some b ≠ row) : BMap w' b n f := by
  obtain ⟨D, h, hf⟩ := h
  exact ⟨D, h.kept hg hne, hf⟩
theorem BMap.below (h : BMap w b n f) (hb : Below w.heap.size w w') : BMap w' b n f :=
  h.kept (row := none) ⟨hb.os, hb.tape, hb.output, hb.size, fun k hk _ => hb.block k hk⟩ (by simp)
theorem BMap.keptT {p B : Nat} (h : BMap w b n f) (k : Kept w w' p B) (h1 : b ≠ p) (h2 : b ≠ B) : BMap w' b n f := by
  obtain ⟨D, ⟨es, clock, hb, F, hs, hD⟩, hf⟩ := h
  exact ⟨D, ⟨es, clock, (k.block b (Array.getElem?_eq_some_iff.1 hb).1 h1 h2).trans hb, F, hs, hD⟩, hf⟩
theorem BMap.look (h : BMap w b n f) {i : Nat} (hi : i < 100) : (Instr.lookup 31 (.map (some b)) (.int .i64 i) false).run Try.prog w = .ok (.bool (f i)) w := by
  obtain ⟨D, h, hf⟩ := h
  obtain ⟨v, ps, hrun, hv⟩ := h.lookup lawKey Try.underlying31 (zeroBool w) (plainElem_bool Try.underlying4 false) (key_int hi)
  rw [hf i hi] at hv
  rw [hrun, plain_bool_inv hv]
theorem BMap.put (h : BMap w b n f) (hn : n < 1000000) {i : Nat} (hi : i < 100) (x : Bool) : ∃ w', (Instr.mapUpdate 31 (.map (some b)) (.int .i64 i) (.bool x)).run Try.prog w = .ok () w' ∧
    BMap w' b (n + 1) (fun j => if j = i then x else f j) ∧ w.grownBy w' (some b) := by
  obtain ⟨D, h, hf⟩ := h
  obtain ⟨w', hrun, h2, hg⟩ := h.update lawKey Try.underlying31 (by unfold maxLen; omega) (key_int hi) (plainElem_bool Try.underlying4 x)
  refine ⟨w', hrun, ⟨_, h2, fun j hj => ?_⟩, hg⟩
  have hD : Go.Maps.IsMap D := by
    obtain ⟨es, clock, _, _, _, hD⟩ := h
    rw [hD]
    exact ⟨_, rfl⟩
  by_cases e : j = i
  · subst e
    rw [Go.Maps.atKey_put_same hD (lawKey.key (key_int hi))]
    simp
  · rw [Go.Maps.atKey_put_other (by simp; omega)]
    simp only [if_neg e]
    exact hf j hj
theorem BMap.congr {g : Nat → Bool} (h : BMap w b n f) (e : ∀ i, i < 100 → f i = g i) : BMap w b n g := by
  obtain ⟨D, h, hf⟩ := h
  exact ⟨D, h, fun i hi => by rw [hf i hi, e i hi]⟩
end
end Go.Proofs.Ytjampaggidelgaa
