/- Right times, of small numbers. -/
import Derived.Test.YtjampaggidelgaaAwake
namespace Go.Proofs.Ytjampaggidelgaa
open Go.RowKit
set_option linter.unusedSimpArgs false
set_option linter.unusedVariables false
def Times.small (t : Times) : Times := ⟨1 + t.lease % 20, 1 + t.wait % 10, 1 + t.wait % 10 + t.most % 60⟩
theorem times_any (t : Times) (w : World) : Calls Try.prog 10 #[.agg #[.int .u64 t.lease, .int .u64 t.wait, .int .u64 t.most]] w fun e w' =>
    e = .returned (.agg #[.int .u64 t.small.lease, .int .u64 t.small.wait, .int .u64 t.small.most]) ∧ Below w.heap.size w w' := by
  obtain ⟨a, b, c⟩ := t
  simp only [Times.small]
  go_enter Try.func10, Try.ntmps10
  go_wp2_with fail
  refine bodyPost_ret (v := .agg #[.int .u64 (1 + (a : Int) % 20), .int .u64 (1 + (b : Int) % 10), .int .u64 (1 + (b : Int) % 10 + (c : Int) % 60)]) (by simp [results, Try.results10, go_sem]) rfl ⟨by simp, ?_⟩
  exact (((Below.refl _ _).alloc (Nat.le_refl _) _).alloc (by simp) _).alloc (by simp; omega) _
/-- The bounds of small times. -/
structure SmallT (t : Times) : Prop where
  l1 : 1 ≤ t.lease
  l2 : t.lease ≤ 20
  w1 : 1 ≤ t.wait
  w2 : t.wait ≤ 10
  m1 : t.wait ≤ t.most
  m2 : t.most ≤ 70
theorem small_ok (t : Times) : SmallT t.small := by
  constructor <;> simp only [Times.small] <;> omega
theorem bad_of {n : Nat} (h1 : 1 ≤ n) (h2 : n ≤ 100) : bad n = false := by unfold bad; simp; omega
theorem new_small (n : Nat) (t : Times) (last : Nat) (w : World) (h1 : 1 ≤ n) (h2 : n ≤ 16) (ht : SmallT t) (hlast : last < 18446744073709551616) :
    Calls Try.prog 11 #[.int .i64 n, .agg #[.int .u64 t.lease, .int .u64 t.wait, .int .u64 t.most], .int .u64 last] w fun e w' => ∃ p B, e = .returned (.tuple #[.pointer (some ⟨p, 0, none⟩), .int .i64 0]) ∧
      TabAt w' p B (List.replicate n Job.zero) t last ∧ Below w.heap.size w w' ∧ w.heap.size ≤ p ∧ w.heap.size ≤ B :=
  new_ok n t last w h1 h2 (bad_of ht.l1 (by have := ht.l2; omega)) (bad_of ht.w1 (by have := ht.w2; omega)) (bad_of (by have := ht.w1; have := ht.m1; omega) (by have := ht.m2; omega)) (by have := ht.m1; omega) hlast
theorem nat64 {n : Int} (h : (Lit.int .u64 n).wf = true) : ∃ m : Nat, n = m ∧ m < 18446744073709551616 := by
  simp [Lit.wf, IntKind.min, IntKind.max, IntKind.bits, IntKind.signed] at h
  exact ⟨n.toNat, by omega, by omega⟩
theorem nat16 {n : Int} (h : (Lit.int .u16 n).wf = true) : ∃ m : Nat, n = m ∧ m ≤ 65535 := by
  simp [Lit.wf, IntKind.min, IntKind.max, IntKind.bits, IntKind.signed] at h
  exact ⟨n.toNat, by omega, by omega⟩
theorem nat8 {n : Int} (h : (Lit.int .u8 n).wf = true) : ∃ m : Nat, n = m ∧ m ≤ 255 := by
  simp [Lit.wf, IntKind.min, IntKind.max, IntKind.bits, IntKind.signed] at h
  exact ⟨n.toNat, by omega, by omega⟩
/-- A box of times. -/
structure TimesAt (w : World) (b : Nat) (t : Times) : Prop where
  at_ : w.heap[b]? = some (.cells #[.int .u64 t.lease, .int .u64 t.wait, .int .u64 t.most] 24 (0, 0))
section
variable {w w' : World} {b p B : Nat} {t t' : Times}
theorem TimesAt.lt (h : TimesAt w b t) : b < w.heap.size := (Array.getElem?_eq_some_iff.1 h.at_).1
theorem TimesAt.below (h : TimesAt w b t) (hb : Below w.heap.size w w') : TimesAt w' b t := ⟨by rw [hb.block b h.lt]; exact h.at_⟩
theorem TimesAt.kept (h : TimesAt w b t) (k : Kept w w' p B) (h1 : b ≠ p) (h2 : b ≠ B) : TimesAt w' b t := ⟨by rw [k.block b h.lt h1 h2]; exact h.at_⟩
theorem TimesAt.c0 (h : TimesAt w b t) : w.cell? ⟨b, 0, none⟩ = some (.int .u64 t.lease) := by unfold World.cell?; rw [h.at_]; rfl
theorem TimesAt.c1 (h : TimesAt w b t) : w.cell? ⟨b, 1, none⟩ = some (.int .u64 t.wait) := by unfold World.cell?; rw [h.at_]; rfl
theorem TimesAt.c2 (h : TimesAt w b t) : w.cell? ⟨b, 2, none⟩ = some (.int .u64 t.most) := by unfold World.cell?; rw [h.at_]; rfl
theorem TimesAt.free (h : TimesAt w b t) (k : Nat) : w.frozen? ⟨b, k, none⟩ = false := by
  unfold World.frozen?
  rw [h.at_]
  simp
theorem TimesAt.new (w : World) (t : Times) : TimesAt (w.alloc (.cells #[.int .u64 t.lease, .int .u64 t.wait, .int .u64 t.most] 24)) w.heap.size t := ⟨heap_new _ _⟩
theorem TimesAt.store (h : TimesAt w b t) : TimesAt (((w.setCell ⟨b, 0, none⟩ (.int .u64 t'.lease)).setCell ⟨b, 1, none⟩ (.int .u64 t'.wait)).setCell ⟨b, 2, none⟩ (.int .u64 t'.most)) b t' :=
  ⟨by rw [Go.Joins.block_setCell (Go.Joins.block_setCell (Go.Joins.block_setCell h.at_ _) _) _]; rfl⟩
end
theorem below_set {n : Nat} {w w' : World} (h : Below n w w') (a : Addr) (v : Value) (ha : n ≤ a.block) : Below n w (w'.setCell a v) := h.setCell ha v
end Go.Proofs.Ytjampaggidelgaa
