/- How arguments of plain data lie in memory: numbers, bools, structs, slices of these, to any depth. No program in sight. -/
import Derived.Test.YtjampaggidelgaaWords
import Derived.Deep.Slices
namespace Go.Proofs.Ytjampaggidelgaa
open Go.RowKit
set_option linter.unusedVariables false
set_option linter.unusedSimpArgs false

/-- A slice as it is handed over: where, how many may be, the things. -/
structure Sl (α : Type) where
  a : Option Addr
  c : Nat
  l : List α

/-- Kinds of data. -/
inductive Ty where
  | bool
  | int (k : IntKind)
  | slice (e : Ty)
  | unit
  | pair (a b : Ty)

namespace Ty
def size : Ty → Nat
  | .bool => 1
  | .int _ => 1
  | .slice _ => 1
  | .unit => 0
  | .pair a b => a.size + b.size
@[reducible] def El : Ty → Type
  | .bool => Bool
  | .int _ => Int
  | .slice e => Sl e.El
  | .unit => Unit
  | .pair a b => a.El × b.El
def cells : (t : Ty) → t.El → List Value
  | .bool, b => [.bool b]
  | .int k, n => [.int k n]
  | .slice _, s => [.slice s.a s.l.length s.c]
  | .unit, _ => []
  | .pair a b, x => a.cells x.1 ++ b.cells x.2
/-- It lies there so. -/
def Rd (w : World) : (t : Ty) → t.El → Prop
  | .bool, _ => True
  | .int k, n => (Lit.int k n).wf = true
  | .slice e, s => s.l.length ≤ s.c ∧ s.c ≤ maxLen ∧ Row w s.a (s.l.flatMap e.cells) ∧ ∀ x ∈ s.l, e.Rd w x
  | .unit, _ => True
  | .pair a b, x => a.Rd w x.1 ∧ b.Rd w x.2
mutual
/-- A type of the program that is such data. -/
def Fits (P : Program) : Ty → TypeId → Prop
  | .bool, t => P.underlying t = some .bool
  | .int k, t => P.underlying t = some (.int k)
  | .slice e, t => ∃ u, P.underlying t = some (.slice u) ∧ P.cellsOf u = e.size ∧ Fits P e u
  | .unit, t => ∃ fs, P.underlying t = some (.struct fs) ∧ P.cellsOf t = 0 ∧ fs.toList = []
  | .pair a b, t => ∃ fs, P.underlying t = some (.struct fs) ∧ P.cellsOf t = a.size + b.size ∧ ∃ f rest, fs.toList = f :: rest ∧ f.offset = 0 ∧ P.cellsOf f.type = a.size ∧ Fits P a f.type ∧ FitsL P b rest a.size
def FitsL (P : Program) : Ty → List Field → Nat → Prop
  | .unit, fs, _ => fs = []
  | .pair a b, fs, o => ∃ f rest, fs = f :: rest ∧ f.offset = o ∧ P.cellsOf f.type = a.size ∧ Fits P a f.type ∧ FitsL P b rest (o + a.size)
  | .bool, _, _ => False
  | .int _, _, _ => False
  | .slice _, _, _ => False
end

theorem cells_length : ∀ (t : Ty) (x : t.El), (t.cells x).length = t.size
  | .bool, _ => rfl
  | .int _, _ => rfl
  | .slice _, _ => rfl
  | .unit, _ => rfl
  | .pair a b, x => by simp [cells, size, cells_length a, cells_length b]

theorem flat_length (e : Ty) (ys : List e.El) : (ys.flatMap e.cells).length = ys.length * e.size := by
  induction ys with
  | nil => simp
  | cons y ys ih => rw [List.flatMap_cons, List.length_append, ih, cells_length, List.length_cons, Nat.add_mul, Nat.one_mul, Nat.add_comm]
theorem flat_one {α : Type} (f : α → List Value) (g : α → Value) (h : ∀ x, f x = [g x]) (l : List α) : l.flatMap f = l.map g := by
  induction l with
  | nil => rfl
  | cons x l ih => rw [List.flatMap_cons, ih, h]; rfl
theorem flat_get (e : Ty) (ys : List e.El) (i k : Nat) (hk : k < e.size) : (ys.flatMap e.cells)[i * e.size + k]? = (ys[i]?).bind fun y => (e.cells y)[k]? := by
  induction ys generalizing i with
  | nil => simp
  | cons y ys ih =>
    rw [List.flatMap_cons]
    cases i with
    | zero =>
      rw [Nat.zero_mul, Nat.zero_add, List.getElem?_append_left (by rw [cells_length]; exact hk)]
      simp
    | succ i =>
      rw [Nat.add_mul, Nat.one_mul, List.getElem?_append_right (by rw [cells_length]; omega), cells_length, show i * e.size + e.size + k - e.size = i * e.size + k from by omega, ih]
      simp
theorem Rd.below {w w' : World} (hb : Below w.heap.size w w') : ∀ {t : Ty} {x : t.El}, t.Rd w x → t.Rd w' x
  | .bool, _, _ => trivial
  | .int _, _, h => h
  | .slice e, s, ⟨h1, h2, h3, h4⟩ => ⟨h1, h2, h3.below hb, fun x hx => Rd.below hb (h4 x hx)⟩
  | .unit, _, _ => trivial
  | .pair a b, x, ⟨h1, h2⟩ => ⟨Rd.below hb h1, Rd.below hb h2⟩

section
variable {H : Type} {enc : TypeId × Value → H} {P : Program} {w : World}

theorem mapM_range_cells {n : Nat} {a : Addr} {cs : List Value} (h : (List.range n).mapM (fun i => w.cell? (a.add i)) = some cs) : cs.length = n ∧ ∀ i (hi : i < cs.length), w.cell? (a.add i) = some cs[i] := by
  have hl := mapM_some_length h
  rw [List.length_range] at hl
  refine ⟨hl, fun i hi => ?_⟩
  have := mapM_some_get h i i (by rw [List.getElem?_range (by omega)])
  rw [this]
  exact List.getElem?_eq_getElem hi

theorem spot_none {a : Addr} {v : Value} (h : w.cell? a = some v) : a.spot = none := by
  unfold World.cell? at h
  split at h
  · cases hsp : a.spot with
    | none => rfl
    | some s => rw [hsp] at h; simp at h
  · cases h
theorem add_plain {a : Addr} (hs : a.spot = none) (n : Nat) : a.add n = ⟨a.block, a.off + n, none⟩ := by
  unfold Addr.add
  split
  · next e => subst e; cases a; simp_all
  · rfl

mutual
theorem rd_of_trod : ∀ (ty : Ty) (fuel : Nat) (t : TypeId) (cs : List Value) (x : DataW H × List MemPlace), Fits P ty t → DataW.trod enc P w 0 (fun _ => true) true fuel t cs = some x → ∃ e : ty.El, cs = ty.cells e ∧ ty.Rd w e
  | .bool, fuel, t, cs, x, hf, h => by
    obtain ⟨b, e, _⟩ := DataW.trod_bool (show P.underlying t = some .bool from hf) h
    exact ⟨b, e, trivial⟩
  | .int k, fuel, t, cs, x, hf, h => by
    obtain ⟨n, e, _, hw⟩ := DataW.trod_int (show P.underlying t = some (.int k) from hf) h
    exact ⟨n, e, hw⟩
  | .slice e, fuel, t, cs, x, hf, h => by
    obtain ⟨u, hu, hcu, hfe⟩ := hf
    rcases Deep.open_slice hu h with ⟨rfl, _⟩ | ⟨a, len, cap, m, n, D, Pl, rfl, _, hl, hm, hmm, _, hel⟩
    · exact ⟨⟨none, 0, []⟩, rfl, Nat.le_refl _, Nat.zero_le _, Row.nil _ _, fun x hx => by cases hx⟩
    · have hm' : m = cap := by simpa using hmm
      have hone : ∀ i, i < len → ∃ y : e.El, (∀ j (hj : j < (e.cells y).length), w.cell? ((a.add (i * e.size)).add j) = some (e.cells y)[j]) ∧ e.Rd w y := by
        intro i hi
        obtain ⟨cs', h1, h2⟩ := hel i (by omega)
        obtain ⟨y, rfl, hy⟩ := rd_of_trod e n u cs' _ hfe h2
        unfold World.cells? at h1
        rw [if_pos (Nat.zero_le _), hcu] at h1
        obtain ⟨_, h3⟩ := mapM_range_cells h1
        exact ⟨y, h3, hy⟩
      obtain ⟨ys, hyl, hys⟩ : ∃ ys : List e.El, ys.length = len ∧ ∀ i (hi : i < ys.length), (∀ j (hj : j < (e.cells ys[i]).length), w.cell? ((a.add (i * e.size)).add j) = some (e.cells ys[i])[j]) ∧ e.Rd w ys[i] := by
        refine ⟨(List.finRange len).map fun i => Classical.choose (hone i.1 i.2), by simp, fun i hi => ?_⟩
        have hi' : i < len := by simpa using hi
        simpa using Classical.choose_spec (hone i hi')
      refine ⟨⟨some a, cap, ys⟩, by simp [cells, hyl], by rw [hyl]; exact hl, hm, ?_, ?_⟩
      · intro j hj
        have hlen := flat_length e ys
        have hj0 : j < (ys.flatMap e.cells).length := hj
        replace hj : j < ys.length * e.size := by rw [← hlen]; exact hj0
        have hsz : 0 < e.size := by
          rcases Nat.eq_zero_or_pos e.size with h0 | h0
          · rw [h0] at hj; simp at hj
          · exact h0
        have hq : j / e.size < ys.length := by rw [Nat.div_lt_iff_lt_mul hsz]; exact hj
        have hr : j % e.size < (e.cells ys[j / e.size]).length := by rw [cells_length]; exact Nat.mod_lt _ hsz
        have hcell := (hys _ hq).1 _ hr
        have hget : (ys.flatMap e.cells)[j] = (e.cells ys[j / e.size])[j % e.size] := by
          have h1 := flat_get e ys (j / e.size) (j % e.size) (Nat.mod_lt _ hsz)
          rw [show j / e.size * e.size + j % e.size = j from Nat.div_add_mod' j e.size, List.getElem?_eq_getElem hj0, List.getElem?_eq_getElem hq, Option.bind_some, List.getElem?_eq_getElem hr] at h1
          exact Option.some.inj h1
        rw [Deep.add_add, show j / e.size * e.size + j % e.size = j from Nat.div_add_mod' j e.size] at hcell
        have hs0 : a.spot = none := by
          have hc0 := (hys 0 (Nat.lt_of_le_of_lt (Nat.zero_le _) hq)).1 0 (by rw [cells_length]; exact hsz)
          rw [Nat.zero_mul] at hc0
          have : (a.add 0).add 0 = a := rfl
          rw [this] at hc0
          exact spot_none hc0
        rw [add_plain hs0] at hcell
        refine ⟨a.block, a.off, by cases a; simp_all, ?_⟩
        rw [hcell, hget]
      · intro x hx
        obtain ⟨i, hi, rfl⟩ := List.mem_iff_getElem.1 hx
        exact (hys i hi).2
  | .unit, fuel, t, cs, x, hf, h => by
    obtain ⟨fs, hu, hc, hfs⟩ := hf
    obtain ⟨xs, n, _, _, hl, _⟩ := DataW.trod_struct hu h
    rw [hc] at hl
    exact ⟨(), List.eq_nil_of_length_eq_zero hl, trivial⟩
  | .pair a b, fuel, t, cs, x, hf, h => by
    obtain ⟨fs, hu, hc, f, rest, hfs, ho, hca, hfa, hfb⟩ := hf
    obtain ⟨xs, n, _, _, hl, hxl, hel⟩ := DataW.trod_struct hu h
    rw [hc] at hl
    have hget : ∀ (i : Nat) (f' : Field), (f :: rest)[i]? = some f' → ∃ y, DataW.trod enc P w 0 (fun _ => true) true n f'.type ((cs.drop f'.offset).take (P.cellsOf f'.type)) = some y := by
      intro i f' hi
      have h1 : fs[i]? = some f' := by rw [← Array.getElem?_toList, hfs]; exact hi
      have h2 := hel i f' h1
      have h3 : i < fs.size := (Array.getElem?_eq_some_iff.1 h1).1
      rw [h2]
      exact ⟨_, List.getElem?_eq_getElem (by omega)⟩
    obtain ⟨y, hy⟩ := hget 0 f rfl
    rw [ho, hca, List.drop_zero] at hy
    obtain ⟨ea, hea, hra⟩ := rd_of_trod a n f.type _ _ hfa hy
    obtain ⟨eb, heb, hrb⟩ := rd_of_trodL b n rest a.size cs hfb (by omega) (fun i f' hi => hget (i + 1) f' (by simpa using hi))
    refine ⟨(ea, eb), ?_, hra, hrb⟩
    show cs = a.cells ea ++ b.cells eb
    rw [← hea, ← heb]
    exact (List.take_append_drop _ _).symm
theorem rd_of_trodL : ∀ (ty : Ty) (n : Nat) (fs : List Field) (o : Nat) (cs : List Value), FitsL P ty fs o → cs.length = o + ty.size →
    (∀ (i : Nat) f, fs[i]? = some f → ∃ y, DataW.trod enc P w 0 (fun _ => true) true n f.type ((cs.drop f.offset).take (P.cellsOf f.type)) = some y) → ∃ e : ty.El, cs.drop o = ty.cells e ∧ ty.Rd w e
  | .bool, _, _, _, _, hf, _, _ => hf.elim
  | .int _, _, _, _, _, hf, _, _ => hf.elim
  | .slice _, _, _, _, _, hf, _, _ => hf.elim
  | .unit, n, fs, o, cs, hf, hl, _ => ⟨(), List.drop_eq_nil_of_le (by simp only [size] at hl; omega), trivial⟩
  | .pair a b, n, fs, o, cs, hf, hl, hget => by
    obtain ⟨f, rest, rfl, ho, hca, hfa, hfb⟩ := hf
    simp only [size] at hl
    obtain ⟨y, hy⟩ := hget 0 f rfl
    rw [ho, hca] at hy
    obtain ⟨ea, hea, hra⟩ := rd_of_trod a n f.type _ _ hfa hy
    obtain ⟨eb, heb, hrb⟩ := rd_of_trodL b n rest (o + a.size) cs hfb (by omega) (fun i f' hi => hget (i + 1) f' (by simpa using hi))
    refine ⟨(ea, eb), ?_, hra, hrb⟩
    show cs.drop o = a.cells ea ++ b.cells eb
    rw [← hea, ← heb, ← List.drop_drop]
    exact (List.take_append_drop _ _).symm
end
end
end Ty
end Go.Proofs.Ytjampaggidelgaa
