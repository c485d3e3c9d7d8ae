/- Calls that came in, xs they lie in memory. -/
import Derived.Test.YtjampaggidelgaaBMap
import Derived.Test.YtjampaggidelgaaReads
namespace Go.Proofs.Ytjampaggidelgaa
open Go.RowKit
set_option linter.unusedSimpArgs false
set_option linter.unusedVariables false

structure ActV where
  k : Nat
  s : Nat
  raw : Bool
  job : Int
  lease : Nat
def ActV.cells (a : ActV) : List Value := [.int .u8 a.k, .int .u64 a.s, .bool a.raw, .int .i64 a.job, .int .u64 a.lease]
structure ActV.Fits (a : ActV) : Prop where
  k : a.k ≤ 255
  s : a.s < 18446744073709551616
  j1 : -9223372036854775808 ≤ a.job
  j2 : a.job ≤ 9223372036854775807
  lease : a.lease < 18446744073709551616
structure Acts (w : World) (A : Option Addr) (xs : List ActV) : Prop where
  row : Row w A (xs.flatMap ActV.cells)
  fits : ∀ a ∈ xs, a.Fits
theorem acts_get : ∀ (xs : List ActV) (i : Nat) (hi : i < xs.length) (k : Nat) (hk : k < 5), (xs.flatMap ActV.cells)[i * 5 + k]? = (xs[i].cells)[k]?
  | [], i, hi, _, _ => absurd hi (by simp)
  | a :: xs, 0, hi, k, hk => by
    simp only [List.flatMap_cons, Nat.zero_mul, Nat.zero_add, List.getElem_cons_zero]
    rw [List.getElem?_append_left (by simpa [ActV.cells] using hk)]
  | a :: xs, i + 1, hi, k, hk => by
    have := acts_get xs i (by simpa using hi) k hk
    simp only [List.flatMap_cons, List.getElem_cons_succ]
    rw [List.getElem?_append_right (by simp [ActV.cells]; omega), ← this]
    congr 1
    simp [ActV.cells]
    omega
section
variable {w w' : World} {A : Option Addr} {xs : List ActV}
theorem Acts.below (h : Acts w A xs) (hb : Below w.heap.size w w') : Acts w' A xs := ⟨h.row.below hb, h.fits⟩
theorem Acts.at_ (h : Acts w A xs) (i : Nat) (hi : i < xs.length) : ∃ b off, A = some ⟨b, off, none⟩ ∧
    w.cell? ⟨b, off + i * 5, none⟩ = some (.int .u8 xs[i].k) ∧ w.cell? ⟨b, off + i * 5 + 1, none⟩ = some (.int .u64 xs[i].s) ∧ w.cell? ⟨b, off + i * 5 + 2, none⟩ = some (.bool xs[i].raw) ∧
    w.cell? ⟨b, off + i * 5 + 3, none⟩ = some (.int .i64 xs[i].job) ∧ w.cell? ⟨b, off + i * 5 + 4, none⟩ = some (.int .u64 xs[i].lease) := by
  have hone : ∀ k (hk : k < 5), ∃ b off, A = some ⟨b, off, none⟩ ∧ w.cell? ⟨b, off + (i * 5 + k), none⟩ = xs[i].cells[k]? := by
    intro k hk
    have hg := acts_get xs i hi k hk
    have hk' : k < xs[i].cells.length := by simp [ActV.cells]; omega
    rw [List.getElem?_eq_getElem hk'] at hg ⊢
    obtain ⟨h1, e1⟩ := List.getElem?_eq_some_iff.1 hg
    obtain ⟨b, off, e, hc⟩ := h.row _ h1
    exact ⟨b, off, e, by rw [hc, e1]⟩
  obtain ⟨b, off, e, h0⟩ := hone 0 (by omega)
  subst e
  have hrest : ∀ k (hk : k < 5), w.cell? ⟨b, off + i * 5 + k, none⟩ = xs[i].cells[k]? := by
    intro k hk
    obtain ⟨b', off', e, hc⟩ := hone k hk
    simp only [Option.some.injEq, Addr.mk.injEq, and_true] at e
    obtain ⟨rfl, rfl⟩ := e
    rw [Nat.add_assoc]
    exact hc
  exact ⟨b, off, rfl, hrest 0 (by omega), hrest 1 (by omega), hrest 2 (by omega), hrest 3 (by omega), hrest 4 (by omega)⟩
end
@[reducible] def tyAct : Ty := .pair (.int .u8) (.pair (.int .u64) (.pair .bool (.pair (.int .i64) (.pair (.int .u64) .unit))))
def toAct (x : Ty.El tyAct) : ActV := ⟨x.1.toNat, x.2.1.toNat, x.2.2.1, x.2.2.2.1, x.2.2.2.2.1.toNat⟩
theorem toAct_ok {w : World} {x : Ty.El tyAct} (h : Ty.Rd w tyAct x) : (toAct x).Fits ∧ (toAct x).cells = Ty.cells tyAct x := by
  obtain ⟨a, b, c, d, e, u⟩ := x
  obtain ⟨ha, hb, -, hd, he, -⟩ := h
  simp only [Ty.Rd] at ha hb hd he
  simp [Lit.wf, IntKind.min, IntKind.max, IntKind.bits, IntKind.signed] at ha hb hd he
  refine ⟨⟨?_, ?_, ?_, ?_, ?_⟩, ?_⟩
  · simp only [toAct]; omega
  · simp only [toAct]; omega
  · simp only [toAct]; omega
  · simp only [toAct]; omega
  · simp only [toAct]; omega
  · simp only [toAct, ActV.cells, Ty.cells, List.cons_append, List.nil_append]
    rw [Int.toNat_of_nonneg (by omega), Int.toNat_of_nonneg (by omega), Int.toNat_of_nonneg (by omega)]
theorem flat_congr {α β : Type} {f g : α → List β} : ∀ {l : List α}, (∀ x ∈ l, f x = g x) → l.flatMap f = l.flatMap g
  | [], _ => rfl
  | x :: l, h => by rw [List.flatMap_cons, List.flatMap_cons, h x (by simp), flat_congr fun y hy => h y (by simp [hy])]
theorem acts_of {w : World} {s : Sl (Ty.El tyAct)} (h : Ty.Rd w (.slice tyAct) s) : Acts w s.a (s.l.map toAct) ∧ (s.l.map toAct).length = s.l.length ∧ s.l.length ≤ s.c ∧ s.l.length ≤ 9223372036854775807 := by
  obtain ⟨h1, h2, h3, h4⟩ := h
  unfold maxLen at h2
  refine ⟨⟨?_, ?_⟩, by simp, h1, by omega⟩
  · have e : (s.l.map toAct).flatMap ActV.cells = s.l.flatMap (Ty.cells tyAct) := by
      rw [List.flatMap_map]
      exact flat_congr fun x hx => (toAct_ok (h4 x hx)).2
    rw [e]
    exact h3
  · intro a ha
    obtain ⟨x, hx, rfl⟩ := List.mem_map.1 ha
    exact (toAct_ok (h4 x hx)).1
end Go.Proofs.Ytjampaggidelgaa
