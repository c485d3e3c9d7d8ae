/- Words on rows of cells, used by all walks of this seat; no program in sight. -/
import Derived.WalkKit
import Derived.WalkSpells
import Derived.Laws.AppendOwnNone
import Derived.Deep.AppendSrc
import Derived.ProofKit
namespace Go.Proofs.Ytjampaggidelgaa
open Go.RowKit

/-- A fact that the walk does not look into. -/
structure Hd (p : Prop) : Prop where mk :: (out : p)
/-- Cells in a row: from an address on. -/
def Row (w : World) (A : Option Addr) (vs : List Value) : Prop :=
  ∀ j (h : j < vs.length), ∃ b off, A = some ⟨b, off, none⟩ ∧ w.cell? ⟨b, off + j, none⟩ = some vs[j]
def byteV (c : UInt8) : Value := .int .u8 c.toNat
/-- A slice of bytes that reads so. -/
def Bytes (w : World) (A : Option Addr) (l : List UInt8) : Prop := Row w A (l.map byteV)

theorem ret_int {k : IntKind} {a b : Int} (h : a = b) : Ending.returned (.int k a) = .returned (.int k b) := by rw [h]
theorem ret_bool {a b : Bool} (h : a = b) : Ending.returned (.bool a) = .returned (.bool b) := by rw [h]

theorem Row.nil (w : World) (A : Option Addr) : Row w A [] := fun j h => absurd h (by simp)
theorem Bytes.nil (w : World) (A : Option Addr) : Bytes w A [] := Row.nil w A
theorem Bytes.at_ {w : World} {A : Option Addr} {l : List UInt8} (h : Bytes w A l) (j : Nat) (hj : j < l.length) :
    ∃ b off, A = some ⟨b, off, none⟩ ∧ w.cell? ⟨b, off + j, none⟩ = some (.int .u8 (l[j].toNat : Int)) := by
  obtain ⟨b, off, e, hc⟩ := h j (by simpa using hj)
  exact ⟨b, off, e, by rw [hc]; simp [byteV]⟩
/-- What old memory holds stays readable. -/
theorem Row.below {w w' : World} {A : Option Addr} {vs : List Value} (h : Row w A vs) (hb : Below w.heap.size w w') : Row w' A vs := fun j hj => by
  obtain ⟨b, off, e, hc⟩ := h j hj
  exact ⟨b, off, e, by rw [hb.cell (World.block_lt_of_cell? w _ hc)]; exact hc⟩
theorem Row.below_of {B : Nat} {w w' : World} {A : Option Addr} {vs : List Value} (h : Row w A vs) (hA : ∀ a, A = some a → a.block < B) (hb : Below B w w') : Row w' A vs := fun j hj => by
  obtain ⟨b, off, e, hc⟩ := h j hj
  exact ⟨b, off, e, (hb.cell (p := ⟨b, off + j, none⟩) (show b < B from hA _ e)).trans hc⟩
theorem Row.grown {w w' : World} {A : Option Addr} {vs : List Value} {row : Option Nat} (h : Row w A vs) (hg : w.grownBy w' row) (hA : ∀ a, A = some a → some a.block ≠ row) : Row w' A vs := fun j hj => by
  obtain ⟨b, off, e, hc⟩ := h j hj
  exact ⟨b, off, e, hg.cell (a := ⟨b, off + j, none⟩) hc (show some b ≠ row from hA _ e)⟩
theorem Bytes.below {w w' : World} {A : Option Addr} {l : List UInt8} (h : Bytes w A l) (hb : Below w.heap.size w w') : Bytes w' A l := Row.below h hb
theorem Bytes.take {w : World} {A : Option Addr} {l : List UInt8} (h : Bytes w A l) (n : Nat) : Bytes w A (l.take n) := fun j hj => by
  have hj' : j < l.length := by simp at hj; omega
  obtain ⟨b, off, e, hc⟩ := h.at_ j hj'
  exact ⟨b, off, e, by rw [hc]; simp [byteV]⟩
theorem Bytes.drop {w : World} {ad : Addr} {l : List UInt8} (h : Bytes w (some ad) l) (n : Nat) : Bytes w (some (ad.add n)) (l.drop n) := fun j hj => by
  have hj' : n + j < l.length := by simp at hj; omega
  obtain ⟨b, off, e, hc⟩ := h.at_ (n + j) hj'
  simp only [Option.some.injEq] at e
  subst e
  refine ⟨b, off + n, ?_, by rw [Nat.add_assoc, hc]; simp [byteV]⟩
  unfold Addr.add
  split <;> simp_all
/-- A row in a block that reads so. -/
theorem row_block {w : World} {b : Nat} {off : Nat} {cs : Array Value} {t : TypeId} {fz : Nat × Nat} {vs : List Value} (hb : w.heap[b]? = some (.cells cs t fz))
    (h : ∀ j (h : j < vs.length), cs[off + j]? = some vs[j]) : Row w (some ⟨b, off, none⟩) vs := fun j hj =>
  ⟨b, off, rfl, by unfold World.cell?; rw [hb]; simpa using h j hj⟩
theorem heap_new (w : World) (o : Obj) : (w.alloc o).heap[w.heap.size]? = some o := by
  show (w.heap.push o)[w.heap.size]? = some o
  simp
theorem heap_old (w : World) (o : Obj) (b : Nat) (h : b < w.heap.size) : (w.alloc o).heap[b]? = w.heap[b]? := Below.heap_alloc w o b h
/-- The new block of an allocation, all of it. -/
theorem row_new (w : World) (vs : List Value) (t : TypeId) (fz : Nat × Nat) : Row (w.alloc (.cells vs.toArray t fz)) (some ⟨w.heap.size, 0, none⟩) vs :=
  row_block (heap_new _ _) (by intro j hj; simp [hj])

/-- A part of a row. -/
theorem Row.take {w : World} {A : Option Addr} {vs : List Value} (h : Row w A vs) (n : Nat) : Row w A (vs.take n) := fun j hj => by
  have hj' : j < vs.length := by simp at hj; omega
  obtain ⟨b, off, e, hc⟩ := h j hj'
  exact ⟨b, off, e, by rw [hc]; simp⟩
theorem Row.drop {w : World} {b off : Nat} {vs : List Value} (h : Row w (some ⟨b, off, none⟩) vs) (n : Nat) : Row w (some ⟨b, off + n, none⟩) (vs.drop n) := fun j hj => by
  have hj' : n + j < vs.length := by simp at hj; omega
  obtain ⟨b', off', e, hc⟩ := h (n + j) hj'
  simp only [Option.some.injEq, Addr.mk.injEq, and_true] at e
  obtain ⟨rfl, rfl⟩ := e
  exact ⟨_, _, rfl, by rw [Nat.add_assoc, hc]; simp⟩

/-- An owned row reads so. -/
theorem own_row {w : World} {base n : Nat} {e : TypeId} {v : Value} {xs : List Value} (h : w.ownsRow base e 1 v n xs) : ∃ A c, v = .slice A n c ∧ Row w A xs ∧ xs.length = n ∧ (∀ a, A = some a → base ≤ a.block) ∧ n ≤ c ∧ n ≤ maxLen := by
  have hl : xs.length = n := by simpa using h.1
  rcases h.2 with ⟨rfl, rfl⟩ | ⟨g, cap, cur, rfl, hb, hh, hn, hm, _⟩
  · obtain rfl : xs = [] := List.eq_nil_of_length_eq_zero hl
    exact ⟨none, 0, rfl, Row.nil _ _, rfl, (fun a h => by cases h), Nat.le_refl _, Nat.zero_le _⟩
  · refine ⟨_, cap, rfl, fun j hj => ⟨g, 0, rfl, ?_⟩, hl, (fun a h => by cases h; exact hb), hn, Nat.le_trans hn hm⟩
    rw [Nat.zero_add, h.cellAt j (by omega)]
    exact List.getElem?_eq_getElem hj

theorem below_undrew {w w' : World} (h : Below w.drew.heap.size w.drew w') : Below w.heap.size w w' := ⟨h.os, h.tape, h.output, h.size, h.block⟩
theorem own_form {w : World} {base n size : Nat} {e : TypeId} {v : Value} {xs : List Value} (h : w.ownsRow base e size v n xs) (hn : 0 < n) : ∃ g cap, v = .slice (some ⟨g, 0, none⟩) n cap ∧ base ≤ g := by
  rcases h.2 with ⟨_, h⟩ | ⟨g, cap, cur, h, hb, _⟩
  · omega
  · exact ⟨g, cap, h, hb⟩
/-- What was there before stays, whatever an owned row does. -/
theorem below_own {B : Nat} {w0 w w' : World} {e : TypeId} {size n : Nat} {v : Value} {xs : List Value} (h : Below B w0 w) (hB : B ≤ w.heap.size) (hown : w.ownsRow B e size v n xs) (hg : w.grownBy w' v.ownBlock) : Below B w0 w' :=
  h.grown hg hB (fun k hk => (hown.lt k hk).1)
theorem byte_one {l : List UInt8} : ∀ u ∈ l.map byteV, u.oneCell' = true := by
  intro u hu
  obtain ⟨c, _, rfl⟩ := List.mem_map.1 hu
  rfl
theorem oneCell_int (k : IntKind) (n : Int) : (Value.int k n).oneCell' = true := rfl

/-- A slice of integers that came in: nil, or a row of 'cap' cells. -/
def IsRow (k : IntKind) (w : World) (a : Option Addr) (len cap : Nat) (zs : List Int) : Prop :=
  (a = none ∧ len = 0 ∧ cap = 0 ∧ zs = []) ∨
  ∃ x, a = some x ∧ len ≤ cap ∧ cap ≤ maxLen ∧ zs.length = cap ∧ (∀ i, i < zs.length → w.cell? (x.add i) = some (.int k (zs.getD i 0))) ∧ ∀ n ∈ zs, (Lit.int k n).wf = true
theorem IsRow.row {k : IntKind} {w : World} {a : Option Addr} {len cap : Nat} {zs : List Int} (h : IsRow k w a len cap zs) : Row w a ((zs.take len).map (Value.int k)) ∧ (zs.take len).length = len ∧ len ≤ cap ∧ len ≤ 9223372036854775807 ∧ ∀ n ∈ zs.take len, (Lit.int k n).wf = true := by
  rcases h with ⟨rfl, rfl, rfl, rfl⟩ | ⟨x, rfl, hl, hm, hz, hc, hw⟩
  · exact ⟨Row.nil _ _, rfl, Nat.le_refl _, by omega, fun n h => by simp at h⟩
  · refine ⟨fun j hj => ?_, by rw [List.length_take]; omega, hl, by unfold maxLen at hm; omega, fun n h => hw n (List.mem_of_mem_take h)⟩
    simp only [List.length_map, List.length_take] at hj
    have h0 := hc 0 (by omega)
    rw [Addr.add, if_pos rfl] at h0
    have hs : x.spot = none := by
      unfold World.cell? at h0
      split at h0
      · cases hsp : x.spot with
        | none => rfl
        | some s => rw [hsp] at h0; simp at h0
      · cases h0
    refine ⟨x.block, x.off, by cases x; simp_all, ?_⟩
    have hj' := hc j (by omega)
    rw [show x.add j = ⟨x.block, x.off + j, none⟩ from by
      unfold Addr.add
      split
      · next e => subst e; cases x; simp_all
      · rfl] at hj'
    rw [hj']
    simp [List.getD_eq_getElem?_getD, List.getElem?_eq_getElem (show j < zs.length by omega)]
theorem IsRow.bytes {w : World} {a : Option Addr} {len cap : Nat} {zs : List Int} (h : IsRow .u8 w a len cap zs) : ∃ l : List UInt8, l.length = len ∧ Bytes w a l ∧ len ≤ 9223372036854775807 ∧ len ≤ cap := by
  obtain ⟨hr, hl, hcap, hm, hw⟩ := h.row
  refine ⟨(zs.take len).map (fun n => UInt8.ofNat n.toNat), by rw [List.length_map, hl], ?_, hm, hcap⟩
  unfold Bytes
  rw [List.map_map]
  have e : (zs.take len).map (byteV ∘ fun n => UInt8.ofNat n.toNat) = (zs.take len).map (Value.int .u8) := by
    refine List.map_congr_left fun n hn => ?_
    have hb := hw n hn
    simp [Lit.wf, IntKind.min, IntKind.max, IntKind.bits, IntKind.signed] at hb
    simp only [Function.comp, byteV]
    congr 1
    simp
    omega
  rw [e]
  exact hr

section
variable {P : Program} {w : World} {ops : Array Oper} {rest : List Oper} {o : Oper} {a : Act} {Q : Exit → Act → World → Prop}

theorem wp_append_nil (s x : Operand) (t : TypeId) (ho : o.op = .call { callee := .builtin .append, args := #[s, x], argTypes := #[t, t] })
    (base : Nat) (e : TypeId) (i : TypeInfo) (size : Nat) (ht : P.underlying t = some (.slice e)) (hi : P.info? e = some i)
    (v : Value) (n : Nat) (xs : List Value) (hs : a.eval s = v) (hown : w.ownsRow base e size v n xs) (c : Nat) (hx : a.eval x = .slice none 0 c) (K : Act → World → Prop)
    (h : K (a.put o.dst v) w) : o.wp P a w K Q := by
  have hrun : (Builtin.append_ #[t, t] o.type #[v, .slice none 0 c]).run P w = .ok v w := by
    rcases hown.2 with ⟨rfl, rfl⟩ | ⟨g, cap, cur, rfl, _, _, hnc, _⟩
    · simp [Builtin.append_, run_underlying ht, sizeOf, typeInfo, hi, Builtin.lenOf, Builtin.firstCells]
    · simp [Builtin.append_, run_underlying ht, sizeOf, typeInfo, hi, Builtin.lenOf, Builtin.firstCells, hnc, storeCells]
  unfold Oper.wp
  simp [execOp, ho, resolve, invoke, builtin, hs, hx, hrun, Result.andThen]
  exact h

/-- An append to a slice that the call itself owns, of cells of one word, whatever is appended. -/
theorem wpList_append_row (hgd : o.guard = none) (s x : Operand) (t : TypeId) (ho : o.op = .call { callee := .builtin .append, args := #[s, x], argTypes := #[t, t] })
    (base : Nat) (e : TypeId) (i : TypeInfo) (z : Value) (bytes : Nat) (ht : P.underlying t = some (.slice e)) (hi : P.info? e = some i) (hz : i.zero = some z)
    (hsize : i.size = 1) (hby : i.bytes = bytes) (hzs : z.cells.size = 1)
    (v : Value) (n : Nat) (xs : List Value) (hs : a.eval s = v) (hown : w.ownsRow base e 1 v n xs)
    (A : Option Addr) (m c : Nat) (news : List Value) (hx : a.eval x = .slice A m c) (hl : news.length = m) (hnews : Row w A news) (h1 : ∀ u ∈ news, u.oneCell' = true)
    (hbytes : (n + m) * bytes ≤ 140737488355328) (h63 : n + m ≤ maxLen) (hbase : base ≤ w.heap.size)
    (h : ∀ v' w', w'.ownsRow base e 1 v' (n + m) (xs ++ news) → w.grownBy w' v.ownBlock → wpList P ops Q rest (a.put o.dst v') w') : wpList P ops Q (o :: rest) a w := by
  cases A with
  | none =>
    have hm : m = 0 := by
      rcases Nat.eq_zero_or_pos m with h0 | h0
      · exact h0
      · obtain ⟨b, off, e', _⟩ := hnews 0 (by omega)
        cases e'
    subst hm
    obtain rfl : news = [] := List.eq_nil_of_length_eq_zero hl
    refine wpList_plain hgd fun K hK => ?_
    exact wp_append_nil s x t ho base e i 1 ht hi v n xs hs hown c hx K (hK _ _ (h _ _ (by simpa using hown) ⟨rfl, rfl, rfl, Nat.le_refl _, fun _ _ _ => rfl⟩))
  | some ad =>
    refine wpList_append_own w hgd s x t ho base e i z 1 bytes ht hi hz hsize hby hzs (by omega) v n xs hs hown ad m c news hx (by omega) ?_ h1 h63 hbytes hbase fun v' w' h1 h2 _ => h v' w' h1 h2
    intro j u hu
    obtain ⟨hj, rfl⟩ := List.getElem?_eq_some_iff.1 hu
    obtain ⟨b', off', e', hc⟩ := hnews j hj
    simp only [Option.some.injEq] at e'
    subst e'
    rw [show (⟨b', off', none⟩ : Addr).add j = ⟨b', off' + j, none⟩ from by unfold Addr.add; split <;> simp_all]
    exact hc
end
end Go.Proofs.Ytjampaggidelgaa
