/- The document's table in memory: as the program's, but for its type. -/
import Derived.Test.YtjampaggidelgaaOnce0
namespace Go.Proofs.Ytjampaggidelgaa
open Go.RowKit
set_option linter.unusedSimpArgs false
set_option linter.unusedVariables false
/-- A table of the document's in memory. -/
structure RefAt (w : World) (p B : Nat) (js : List Job) (t : Times) (last : Nat) : Prop where
  head : w.heap[p]? = some (.cells (head B js.length t last) 55 (0, 0))
  body : w.heap[B]? = some (.cells (flat js).toArray 40 (0, 0))
  ne : p ≠ B
  small : js.length ≤ 16
  fits : ∀ j ∈ js, j.Fits
  tl : t.lease ≤ 1099511627776
  tw : t.wait ≤ 1099511627776
  tm : t.most ≤ 1099511627776
  lastFits : last < 18446744073709551616

section
variable {w w' : World} {p B : Nat} {js : List Job} {t : Times} {last : Nat}
theorem RefAt.lt (h : RefAt w p B js t last) : p < w.heap.size ∧ B < w.heap.size := ⟨(Array.getElem?_eq_some_iff.1 h.head).1, (Array.getElem?_eq_some_iff.1 h.body).1⟩
theorem RefAt.old (h : RefAt w p B js t last) (hb : Below w.heap.size w w') : RefAt w' p B js t last :=
  { h with head := by rw [hb.block p h.lt.1]; exact h.head, body := by rw [hb.block B h.lt.2]; exact h.body }
theorem RefAt.drewN (h : RefAt w p B js t last) (n : Nat) : RefAt (w.drewN n) p B js t last := { h with head := h.head, body := h.body }
/-- The cells of the head. -/
theorem RefAt.cellHead (h : RefAt w p B js t last) (k : Nat) (hk : k < 5) : w.cell? ⟨p, k, none⟩ = (Go.Proofs.Ytjampaggidelgaa.head B js.length t last)[k]? := by
  unfold World.cell?
  rw [h.head]
  rfl
theorem RefAt.cellBody (h : RefAt w p B js t last) (i : Nat) (hi : i < js.length) (k : Nat) (hk : k < 5) : w.cell? ⟨B, i * 5 + k, none⟩ = js[i].cells[k]? := by
  unfold World.cell?
  rw [h.body]
  simpa using flat_get js i hi k hk
theorem RefAt.freeBody (h : RefAt w p B js t last) (k : Nat) : w.frozen? ⟨B, k, none⟩ = false := by
  unfold World.frozen?
  rw [h.body]
  simp
theorem RefAt.freeHead (h : RefAt w p B js t last) (k : Nat) : w.frozen? ⟨p, k, none⟩ = false := by
  unfold World.frozen?
  rw [h.head]
  simp
theorem RefAt.setJob (h : RefAt w p B js t last) (i : Nat) (hi : i < js.length) (k : Nat) (hk : k < 5) (j' : Job) (v : Value) (hc : j'.cells = js[i].cells.set k v) (hf : j'.Fits) :
    RefAt (w.setCell ⟨B, i * 5 + k, none⟩ v) p B (js.set i j') t last :=
  { h with
    head := by rw [heap_setCell_other w _ p v h.ne, h.head, List.length_set]
    body := by rw [Go.Joins.block_setCell h.body, flat_set js i hi k hk j' v hc]
    small := by rw [List.length_set]; exact h.small
    fits := fun x hx => by
      rcases List.mem_or_eq_of_mem_set hx with hx | rfl
      · exact h.fits x hx
      · exact hf }
theorem RefAt.setAll (h : RefAt w p B js t last) (i : Nat) (hi : i < js.length) (j' : Job) (hf : j'.Fits) :
    RefAt (((((w.setCell ⟨B, i * 5, none⟩ (.bool j'.done)).setCell ⟨B, i * 5 + 1, none⟩ (.int .u64 j'.lease)).setCell ⟨B, i * 5 + 2, none⟩ (.int .u64 j'.deadline)).setCell ⟨B, i * 5 + 3, none⟩ (.int .i64 j'.tries)).setCell ⟨B, i * 5 + 4, none⟩ (.int .u64 j'.ready)) p B (js.set i j') t last := by
  have f := h.fits _ (List.getElem_mem hi)
  have h0 := h.setJob i hi 0 (by omega) { js[i] with done := j'.done } (.bool j'.done) rfl ⟨f.lease, f.deadline, f.tries, f.ready⟩
  have h1 := h0.setJob i (by simpa using hi) 1 (by omega) { js[i] with done := j'.done, lease := j'.lease } (.int .u64 j'.lease) (by simp [Job.cells]) ⟨hf.lease, f.deadline, f.tries, f.ready⟩
  have h2 := h1.setJob i (by simpa using hi) 2 (by omega) { js[i] with done := j'.done, lease := j'.lease, deadline := j'.deadline } (.int .u64 j'.deadline) (by simp [Job.cells]) ⟨hf.lease, hf.deadline, f.tries, f.ready⟩
  have h3 := h2.setJob i (by simpa using hi) 3 (by omega) { j' with ready := js[i].ready } (.int .i64 j'.tries) (by simp [Job.cells]) ⟨hf.lease, hf.deadline, hf.tries, f.ready⟩
  have h4 := h3.setJob i (by simpa using hi) 4 (by omega) j' (.int .u64 j'.ready) (by simp [Job.cells]) hf
  simpa only [List.set_set, Nat.add_zero] using h4
theorem RefAt.setLast (h : RefAt w p B js t last) (n : Nat) (hn : n < 18446744073709551616) : RefAt (w.setCell ⟨p, 4, none⟩ (.int .u64 n)) p B js t n :=
  { h with
    head := by rw [Go.Joins.block_setCell h.head]; rfl
    body := by rw [heap_setCell_other w _ B _ (Ne.symm h.ne), h.body]
    lastFits := hn }
end
theorem RefAt.kept {w w' : World} {p B q C : Nat} {js : List Job} {t : Times} {last : Nat} (h : RefAt w q C js t last) (k : Kept w w' p B) (h1 : q ≠ p) (h2 : q ≠ B) (h3 : C ≠ p) (h4 : C ≠ B) : RefAt w' q C js t last :=
  { h with head := by rw [k.block q h.lt.1 h1 h2]; exact h.head, body := by rw [k.block C h.lt.2 h3 h4]; exact h.body }
theorem TabAt.kept {w w' : World} {p B q C : Nat} {js : List Job} {t : Times} {last : Nat} (h : TabAt w q C js t last) (k : Kept w w' p B) (h1 : q ≠ p) (h2 : q ≠ B) (h3 : C ≠ p) (h4 : C ≠ B) : TabAt w' q C js t last :=
  { h with head := by rw [k.block q h.lt.1 h1 h2]; exact h.head, body := by rw [k.block C h.lt.2 h3 h4]; exact h.body }
theorem RefAt.grown {w w' : World} {p B : Nat} {js : List Job} {t : Times} {last : Nat} {row : Option Nat} (h : RefAt w p B js t last) (k : w.grownBy w' row) (h1 : some p ≠ row) (h2 : some B ≠ row) : RefAt w' p B js t last :=
  { h with head := by rw [k.block p h.lt.1 h1]; exact h.head, body := by rw [k.block B h.lt.2 h2]; exact h.body }
end Go.Proofs.Ytjampaggidelgaa
