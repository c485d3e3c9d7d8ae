/- A table of leases: what it is, and how it lies in memory. -/
import Derived.Test.YtjampaggidelgaaWords
import Derived.Test.YtjampaggidelgaaProg
import Derived.Lib.SmallJoins
import Derived.Laws.Rows
namespace Go.Proofs.Ytjampaggidelgaa
open Go.RowKit
set_option linter.unusedSimpArgs false
set_option linter.unusedVariables false

structure Job where
  done : Bool
  lease : Nat
  deadline : Nat
  tries : Nat
  ready : Nat
structure Times where
  lease : Nat
  wait : Nat
  most : Nat
def Job.cells (j : Job) : List Value := [.bool j.done, .int .u64 j.lease, .int .u64 j.deadline, .int .i64 j.tries, .int .u64 j.ready]
def Job.zero : Job := ⟨false, 0, 0, 0, 0⟩
/-- A job's numbers are small enough for its cells. -/
structure Job.Fits (j : Job) : Prop where
  lease : j.lease < 18446744073709551616
  deadline : j.deadline < 18446744073709551616
  tries : j.tries ≤ 64
  ready : j.ready < 18446744073709551616
def flat (js : List Job) : List Value := js.flatMap Job.cells
theorem flat_length (js : List Job) : (flat js).length = js.length * 5 := by
  induction js with
  | nil => rfl
  | cons j js ih => simp only [flat, List.flatMap_cons, List.length_append, List.length_cons] at ih ⊢; rw [ih]; simp [Job.cells]; omega
theorem flat_get : ∀ (js : List Job) (i : Nat) (hi : i < js.length) (k : Nat) (hk : k < 5), (flat js)[i * 5 + k]? = (js[i].cells)[k]?
  | [], i, hi, _, _ => absurd hi (by simp)
  | j :: js, 0, hi, k, hk => by
    simp only [flat, List.flatMap_cons, Nat.zero_mul, Nat.zero_add, List.getElem_cons_zero]
    rw [List.getElem?_append_left (by simpa [Job.cells] using hk)]
  | j :: js, i + 1, hi, k, hk => by
    have := flat_get js i (by simpa using hi) k hk
    simp only [flat, List.flatMap_cons, List.getElem_cons_succ] at this ⊢
    rw [List.getElem?_append_right (by simp [Job.cells]; omega), ← this]
    congr 1
    simp [Job.cells]
    omega
theorem flat_set (js : List Job) (i : Nat) (hi : i < js.length) (k : Nat) (hk : k < 5) (j' : Job) (v : Value) (h : j'.cells = js[i].cells.set k v) :
    (flat js).toArray.setIfInBounds (i * 5 + k) v = (flat (js.set i j')).toArray := by
  have hlen := flat_length js
  rw [List.setIfInBounds_toArray]
  congr 1
  refine List.ext_getElem? fun m => ?_
  rcases Nat.lt_or_ge m (js.length * 5) with hm | hm
  · have em : m = (m / 5) * 5 + m % 5 := by omega
    have hm5 : m / 5 < js.length := by omega
    have hk5 : m % 5 < 5 := by omega
    rw [em]
    rw [flat_get (js.set i j') (m / 5) (by simpa using hm5) (m % 5) hk5]
    by_cases e : m / 5 = i
    · rw [List.getElem?_set]
      have hj : (js.set i j')[m / 5]'(by simpa using hm5) = j' := by simp [e]
      rw [hj, h, List.getElem?_set]
      by_cases e2 : m % 5 = k
      · rw [if_pos (by rw [e, e2]), if_pos (by omega), if_pos e2.symm, if_pos (by simpa [Job.cells, e2] using hk5)]
      · rw [if_neg (by omega), if_neg (fun x => e2 x.symm), e, flat_get js i hi _ hk5]
    · rw [List.getElem?_set_ne (by omega), flat_get js (m / 5) hm5 _ hk5]
      congr 2
      rw [List.getElem_set_ne (fun x => e x.symm)]
  · rw [List.getElem?_eq_none (by simp [hlen]; omega), List.getElem?_eq_none (by rw [flat_length]; simpa using hm)]

def head (B n : Nat) (t : Times) (last : Nat) : Array Value := #[.slice (some ⟨B, 0, none⟩) n n, .int .u64 t.lease, .int .u64 t.wait, .int .u64 t.most, .int .u64 last]

/-- A table in memory. -/
structure TabAt (w : World) (p B : Nat) (js : List Job) (t : Times) (last : Nat) : Prop where
  head : w.heap[p]? = some (.cells (head B js.length t last) 65 (0, 0))
  body : w.heap[B]? = some (.cells (flat js).toArray 40 (0, 0))
  ne : p ≠ B
  small : js.length ≤ 16
  fits : ∀ j ∈ js, j.Fits
  tl : t.lease ≤ 1099511627776
  tw : t.wait ≤ 1099511627776
  tm : t.most ≤ 1099511627776
  lastFits : last < 18446744073709551616

/-- What was there before, but for the table. -/
structure Kept (w w' : World) (p B : Nat) : Prop where
  os : w'.os = w.os
  tape : w'.tape = w.tape
  output : w'.output = w.output
  size : w.heap.size ≤ w'.heap.size
  block : ∀ k, k < w.heap.size → k ≠ p → k ≠ B → w'.heap[k]? = w.heap[k]?
theorem Kept.refl (w : World) (p B : Nat) : Kept w w p B := ⟨rfl, rfl, rfl, Nat.le_refl _, fun _ _ _ _ => rfl⟩
theorem Kept.trans {w w1 w2 : World} {p B : Nat} (h : Kept w w1 p B) (k : Kept w1 w2 p B) : Kept w w2 p B :=
  ⟨k.os.trans h.os, k.tape.trans h.tape, k.output.trans h.output, Nat.le_trans h.size k.size, fun b hb h1 h2 => (k.block b (Nat.lt_of_lt_of_le hb h.size) h1 h2).trans (h.block b hb h1 h2)⟩
theorem Kept.of_below {w w' : World} {p B : Nat} (h : Below w.heap.size w w') : Kept w w' p B := ⟨h.os, h.tape, h.output, h.size, fun k hk _ _ => h.block k hk⟩
theorem Kept.setCell (w : World) (p B : Nat) (a : Addr) (v : Value) (h : a.block = p ∨ a.block = B) : Kept w (w.setCell a v) p B :=
  ⟨rfl, rfl, rfl, by simp, fun k _ h1 h2 => heap_setCell_other w a k v (by rcases h with h | h <;> rw [h] <;> assumption)⟩
/-- What lies under the table stays. -/
theorem Kept.below {w0 w w' : World} {p B : Nat} (h : Kept w w' p B) (hb : Below w0.heap.size w0 w) (hp : w0.heap.size ≤ p) (hB : w0.heap.size ≤ B) : Below w0.heap.size w0 w' :=
  ⟨h.os.trans hb.os, h.tape.trans hb.tape, h.output.trans hb.output, Nat.le_trans hb.size h.size, fun k hk => (h.block k (Nat.lt_of_lt_of_le hk hb.size) (by omega) (by omega)).trans (hb.block k hk)⟩

section
variable {w w' : World} {p B : Nat} {js : List Job} {t : Times} {last : Nat}
theorem TabAt.lt (h : TabAt w p B js t last) : p < w.heap.size ∧ B < w.heap.size := ⟨(Array.getElem?_eq_some_iff.1 h.head).1, (Array.getElem?_eq_some_iff.1 h.body).1⟩
theorem TabAt.old (h : TabAt w p B js t last) (hb : Below w.heap.size w w') : TabAt w' p B js t last :=
  { h with head := by rw [hb.block p h.lt.1]; exact h.head, body := by rw [hb.block B h.lt.2]; exact h.body }
theorem TabAt.drewN (h : TabAt w p B js t last) (n : Nat) : TabAt (w.drewN n) p B js t last := { h with head := h.head, body := h.body }
/-- The cells of the head. -/
theorem TabAt.cellHead (h : TabAt w p B js t last) (k : Nat) (hk : k < 5) : w.cell? ⟨p, k, none⟩ = (Go.Proofs.Ytjampaggidelgaa.head B js.length t last)[k]? := by
  unfold World.cell?
  rw [h.head]
  rfl
theorem TabAt.cellBody (h : TabAt w p B js t last) (i : Nat) (hi : i < js.length) (k : Nat) (hk : k < 5) : w.cell? ⟨B, i * 5 + k, none⟩ = js[i].cells[k]? := by
  unfold World.cell?
  rw [h.body]
  simpa using flat_get js i hi k hk
theorem TabAt.freeBody (h : TabAt w p B js t last) (k : Nat) : w.frozen? ⟨B, k, none⟩ = false := by
  unfold World.frozen?
  rw [h.body]
  simp
theorem TabAt.freeHead (h : TabAt w p B js t last) (k : Nat) : w.frozen? ⟨p, k, none⟩ = false := by
  unfold World.frozen?
  rw [h.head]
  simp
theorem TabAt.setJob (h : TabAt w p B js t last) (i : Nat) (hi : i < js.length) (k : Nat) (hk : k < 5) (j' : Job) (v : Value) (hc : j'.cells = js[i].cells.set k v) (hf : j'.Fits) :
    TabAt (w.setCell ⟨B, i * 5 + k, none⟩ v) p B (js.set i j') t last :=
  { h with
    head := by rw [heap_setCell_other w _ p v h.ne, h.head, List.length_set]
    body := by rw [Go.Joins.block_setCell h.body, flat_set js i hi k hk j' v hc]
    small := by rw [List.length_set]; exact h.small
    fits := fun x hx => by
      rcases List.mem_or_eq_of_mem_set hx with hx | rfl
      · exact h.fits x hx
      · exact hf }
theorem TabAt.setAll (h : TabAt w p B js t last) (i : Nat) (hi : i < js.length) (j' : Job) (hf : j'.Fits) :
    TabAt (((((w.setCell ⟨B, i * 5, none⟩ (.bool j'.done)).setCell ⟨B, i * 5 + 1, none⟩ (.int .u64 j'.lease)).setCell ⟨B, i * 5 + 2, none⟩ (.int .u64 j'.deadline)).setCell ⟨B, i * 5 + 3, none⟩ (.int .i64 j'.tries)).setCell ⟨B, i * 5 + 4, none⟩ (.int .u64 j'.ready)) p B (js.set i j') t last := by
  have f := h.fits _ (List.getElem_mem hi)
  have h0 := h.setJob i hi 0 (by omega) { js[i] with done := j'.done } (.bool j'.done) rfl ⟨f.lease, f.deadline, f.tries, f.ready⟩
  have h1 := h0.setJob i (by simpa using hi) 1 (by omega) { js[i] with done := j'.done, lease := j'.lease } (.int .u64 j'.lease) (by simp [Job.cells]) ⟨hf.lease, f.deadline, f.tries, f.ready⟩
  have h2 := h1.setJob i (by simpa using hi) 2 (by omega) { js[i] with done := j'.done, lease := j'.lease, deadline := j'.deadline } (.int .u64 j'.deadline) (by simp [Job.cells]) ⟨hf.lease, hf.deadline, f.tries, f.ready⟩
  have h3 := h2.setJob i (by simpa using hi) 3 (by omega) { j' with ready := js[i].ready } (.int .i64 j'.tries) (by simp [Job.cells]) ⟨hf.lease, hf.deadline, hf.tries, f.ready⟩
  have h4 := h3.setJob i (by simpa using hi) 4 (by omega) j' (.int .u64 j'.ready) (by simp [Job.cells]) hf
  simpa only [List.set_set, Nat.add_zero] using h4
theorem TabAt.setLast (h : TabAt w p B js t last) (n : Nat) (hn : n < 18446744073709551616) : TabAt (w.setCell ⟨p, 4, none⟩ (.int .u64 n)) p B js t n :=
  { h with
    head := by rw [Go.Joins.block_setCell h.head]; rfl
    body := by rw [heap_setCell_other w _ B _ (Ne.symm h.ne), h.body]
    lastFits := hn }
end
end Go.Proofs.Ytjampaggidelgaa
