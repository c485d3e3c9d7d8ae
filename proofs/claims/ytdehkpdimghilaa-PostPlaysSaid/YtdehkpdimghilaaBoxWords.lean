/- Words on a box of letters: a channel behind a pointer. No program in sight. -/
import Derived.Test.YtdehkpdimghilaaWords
import Derived.Test.YtdehkpdimghilaaChan
namespace Go.Proofs.Ytdehkpdimghilaa
open Go.Conc Go.RowKit

/-- What a channel that was made here, and never closed, holds. -/
def Holds (w : World) (c room : Nat) (xs : List Value) : Prop := ∃ s r, w.heap[c]? = some (.chan room xs.toArray false s r false)
/-- A box: its one field is a channel, that holds the things. -/
structure BoxAt (w : World) (p c : Nat) (T : TypeId) (room : Nat) (xs : List Value) : Prop where
  head : ∃ fz, w.heap[p]? = some (.cells #[.chan (some c)] T fz)
  chan : Holds w c room xs
  fits : xs.length ≤ room
  small : room ≤ 256
/-- Nothing that was there has turned but this channel. -/
structure Step (w w' : World) (c room : Nat) (xs : List Value) : Prop where
  grown : w.grownBy w' (some c)
  chan : Holds w' c room xs

theorem Holds.lt {w : World} {c room : Nat} {xs : List Value} (h : Holds w c room xs) : c < w.heap.size := by
  obtain ⟨s, r, h⟩ := h
  exact (Array.getElem?_eq_some_iff.1 h).1
theorem BoxAt.ne {w : World} {p c : Nat} {T : TypeId} {room : Nat} {xs : List Value} (h : BoxAt w p c T room xs) : p ≠ c := by
  rintro rfl
  obtain ⟨fz, h1⟩ := h.head
  obtain ⟨s, r, h2⟩ := h.chan
  rw [h1] at h2
  cases h2
theorem BoxAt.lt {w : World} {p c : Nat} {T : TypeId} {room : Nat} {xs : List Value} (h : BoxAt w p c T room xs) : p < w.heap.size := by
  obtain ⟨fz, h1⟩ := h.head
  exact (Array.getElem?_eq_some_iff.1 h1).1
theorem BoxAt.step {w w' : World} {p c : Nat} {T : TypeId} {room : Nat} {xs ys : List Value} (h : BoxAt w p c T room xs) (hs : Step w w' c room ys) (hy : ys.length ≤ room) : BoxAt w' p c T room ys := by
  refine ⟨?_, hs.chan, hy, h.small⟩
  obtain ⟨fz, h1⟩ := h.head
  exact ⟨fz, by rw [hs.grown.block p h.lt (by simp [h.ne])]; exact h1⟩
/-- What another one does leaves a box alone. -/
theorem BoxAt.other {w w' : World} {p c : Nat} {T : TypeId} {room : Nat} {xs : List Value} (h : BoxAt w p c T room xs) {row : Option Nat} (hg : w.grownBy w' row) (h1 : some p ≠ row) (h2 : some c ≠ row) : BoxAt w' p c T room xs := by
  refine ⟨?_, ?_, h.fits, h.small⟩
  · obtain ⟨fz, h3⟩ := h.head
    exact ⟨fz, by rw [hg.block p h.lt h1]; exact h3⟩
  · obtain ⟨s, r, h3⟩ := h.chan
    exact ⟨s, r, by rw [hg.block c h.chan.lt h2]; exact h3⟩
theorem BoxAt.below {w w' : World} {p c : Nat} {T : TypeId} {room : Nat} {xs : List Value} (h : BoxAt w p c T room xs) (hb : Below w.heap.size w w') : BoxAt w' p c T room xs :=
  h.other (row := none) ⟨hb.os, hb.tape, hb.output, hb.size, fun k hk _ => hb.block k hk⟩ (by simp) (by simp)
theorem BoxAt.cell {w : World} {p c : Nat} {T : TypeId} {room : Nat} {xs : List Value} (h : BoxAt w p c T room xs) : w.cell? ⟨p, 0, none⟩ = some (.chan (some c)) := by
  obtain ⟨fz, h1⟩ := h.head
  unfold World.cell?
  rw [h1]
  rfl

theorem grownBy_refl (w : World) (row : Option Nat) : w.grownBy w row := ⟨rfl, rfl, rfl, Nat.le_refl _, fun _ _ _ => rfl⟩
theorem grownBy_trans {w w1 w2 : World} {row : Option Nat} (h : w.grownBy w1 row) (k : w1.grownBy w2 row) : w.grownBy w2 row :=
  ⟨k.os.trans h.os, k.tape.trans h.tape, k.output.trans h.output, Nat.le_trans h.size k.size, fun i hi hr => (k.block i (Nat.lt_of_lt_of_le hi h.size) hr).trans (h.block i hi hr)⟩
theorem grownBy_below {w w' : World} {row : Option Nat} (hb : Below w.heap.size w w') : w.grownBy w' row := ⟨hb.os, hb.tape, hb.output, hb.size, fun k hk _ => hb.block k hk⟩
theorem grownBy_alloc {w w' : World} {row : Option Nat} (h : w.grownBy w' row) (o : Obj) : w.grownBy (w'.alloc o) row :=
  grownBy_trans h (grownBy_below ((Below.refl _ _).alloc (Nat.le_refl _) o))
theorem grownBy_setCell {w w' : World} {row : Option Nat} (h : w.grownBy w' row) {a : Addr} (ha : w.heap.size ≤ a.block) (v : Value) : w.grownBy (w'.setCell a v) row :=
  ⟨h.os, h.tape, h.output, by simpa using h.size, fun k hk hr => by rw [Below.heap_setCell _ _ _ _ (by omega)]; exact h.block k hk hr⟩
theorem grownBy_set {w w' : World} {c : Nat} (h : w.grownBy w' (some c)) (cap : Nat) (buf : Array Value) (s r : Nat) : w.grownBy (w'.setChan c cap buf false s r false) (some c) :=
  ⟨h.os, h.tape, h.output, by simpa [World.setChan] using h.size, fun k hk hr => by
    have hne : c ≠ k := fun e => hr (by rw [e])
    simp only [World.setChan]
    rw [Array.getElem?_setIfInBounds_ne hne]
    exact h.block k hk hr⟩
theorem Step.refl {w : World} {c room : Nat} {xs : List Value} (h : Holds w c room xs) : Step w w c room xs := ⟨grownBy_refl _ _, h⟩
theorem Step.trans {w w1 w2 : World} {c room : Nat} {xs ys : List Value} (h : Step w w1 c room xs) (k : Step w1 w2 c room ys) : Step w w2 c room ys := ⟨grownBy_trans h.grown k.grown, k.chan⟩
theorem Step.below {w w1 : World} {c room : Nat} {xs : List Value} (hc : Holds w c room xs) (hb : Below w.heap.size w w1) : Step w w1 c room xs := by
  refine ⟨grownBy_below hb, ?_⟩
  obtain ⟨s, r, h⟩ := hc
  exact ⟨s, r, by rw [hb.block c (Array.getElem?_eq_some_iff.1 h).1]; exact h⟩
theorem holds_set {w : World} {c cap : Nat} {buf : Array Value} {s r : Nat} {xs : List Value} (h : c < w.heap.size) (e : buf = xs.toArray) : Holds (w.setChan c cap buf false s r false) c cap xs := by
  subst e
  exact ⟨s, r, heap_setChan w c cap _ false s r false h⟩
/-- A row of the call's own grows beside the channel. -/
theorem Step.own {w w1 w2 : World} {c room : Nat} {xs : List Value} (h : Step w w1 c room xs) {row : Option Nat} (hg : w1.grownBy w2 row) (hr : ∀ k, row = some k → w.heap.size ≤ k) (hc : c < w.heap.size) : Step w w2 c room xs := by
  refine ⟨⟨hg.os.trans h.grown.os, hg.tape.trans h.grown.tape, hg.output.trans h.grown.output, Nat.le_trans h.grown.size hg.size, fun k hk hne => ?_⟩, ?_⟩
  · rw [hg.block k (Nat.lt_of_lt_of_le hk h.grown.size) (fun e => by have := hr k e.symm; omega)]
    exact h.grown.block k hk hne
  · obtain ⟨s, r, h3⟩ := h.chan
    exact ⟨s, r, by rw [hg.block c (Array.getElem?_eq_some_iff.1 h3).1 (fun e => by have := hr c e.symm; omega)]; exact h3⟩
theorem Step.alloc {w w1 : World} {c room : Nat} {xs : List Value} (h : Step w w1 c room xs) (o : Obj) : Step w (w1.alloc o) c room xs :=
  h.trans (Step.below h.chan ((Below.refl _ _).alloc (Nat.le_refl _) o))
/-- A row of the call's own stays while the channel turns. -/
theorem own_step {w w1 w2 : World} {c room : Nat} {xs : List Value} {e : TypeId} {size n : Nat} {v : Value} {vs : List Value} (h : w1.ownsRow w.heap.size e size v n vs) (hs : Step w1 w2 c room xs) (hc : c < w.heap.size) : w2.ownsRow w.heap.size e size v n vs :=
  h.kept hs.grown (by
    rcases hv : v.ownBlock with _ | k
    · exact .inl rfl
    · exact .inr (fun e => by have := (h.lt k hv).1; cases e; omega))
/-- All that was there before lies below; the box was made later. -/
theorem Step.under {B : Nat} {w0 w w' : World} {c room : Nat} {xs : List Value} (h : Step w w' c room xs) (hb : Below B w0 w) (hB : B ≤ w.heap.size) (hc : B ≤ c) : Below B w0 w' :=
  hb.grown h.grown hB (fun k hk => by cases hk; exact hc)
end Go.Proofs.Ytdehkpdimghilaa
