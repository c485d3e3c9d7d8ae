/- An append to an empty slice of no room, of elements of several cells: the old memory stays as it was. No program in sight. -/
import Derived.Test.YtjampaggidelgaaWords
import Derived.Laws.AppendOwn
namespace Go.Proofs.Ytjampaggidelgaa
open Go.RowKit

section
variable {P : Program} {w : World} {ops : Array Oper} {rest : List Oper} {o : Oper} {a : Act} {Q : Exit → Act → World → Prop}

theorem run_append_emptyN (t ty e : TypeId) (base : Nat) (i : TypeInfo) (z : Value) (size bytes : Nat) (ht : P.underlying t = some (.slice e)) (hi : P.info? e = some i) (hz : i.zero = some z)
    (hsize : i.size = size) (hby : i.bytes = bytes) (hzs : z.cells.size = size) (hsz : 0 < size) (B : Option Addr) (hown : w.ownsRow base e size (.slice B 0 0) 0 [])
    (A : Option Addr) (m c : Nat) (news : List Value) (hl : news.length = m * size) (hnews : Row w A news)
    (hbytes : m * bytes ≤ 140737488355328) (h63 : m ≤ maxLen) (hbase : base ≤ w.heap.size) :
    ∃ v' w', (Builtin.append_ #[t, t] ty #[.slice B 0 0, .slice A m c]).run P w = .ok v' w' ∧ Below w.heap.size w w' ∧ w'.ownsRow base e size v' m news := by
  rcases Nat.eq_zero_or_pos m with rfl | hm
  · obtain rfl : news = [] := List.eq_nil_of_length_eq_zero (by rw [hl, Nat.zero_mul])
    refine ⟨_, _, ?_, Below.refl _ _, hown⟩
    cases A <;> cases B <;> simp [Builtin.append_, run_underlying ht, sizeOf, typeInfo, hi, Builtin.lenOf, Builtin.firstCells, loadCells, loadCellsFrom, storeCells]
  · obtain ⟨b, off, rfl, _⟩ := hnews 0 (by rw [hl]; exact Nat.mul_pos hm hsz)
    have hn' : ∀ j u, news[j]? = some u → w.cell? ((⟨b, off, none⟩ : Addr).add j) = some u := by
      intro j u hu
      obtain ⟨hj, rfl⟩ := List.getElem?_eq_some_iff.1 hu
      obtain ⟨b', off', e', hc⟩ := hnews j hj
      simp only [Option.some.injEq, Addr.mk.injEq, and_true] at e'
      obtain ⟨rfl, rfl⟩ := e'
      rw [show (⟨b, off, none⟩ : Addr).add j = ⟨b, off + j, none⟩ from by unfold Addr.add; split <;> simp_all]
      exact hc
    have hge := grownCap_ge w m 0 e
    have hcm : grownCap w m 0 e ≤ maxLen := grownCap_le_maxLen w m 0 e h63
    have hfin : ∀ cs : Array Value, cs = news.toArray ++ Builtin.zeroCells z.cells (grownCap w m 0 e - m) →
        (w.drew.alloc (.cells cs e)).ownsRow base e size (.slice (some ⟨w.heap.size, 0, none⟩) m (grownCap w m 0 e)) m news := by
      rintro cs rfl
      refine ⟨hl, .inr ⟨w.heap.size, _, _, rfl, hbase, heap_alloc_new w.drew _, hge, hcm, ?_, ?_⟩⟩
      · simp only [Array.size_append, List.size_toArray, size_zeroCells, hzs, hl]
        rw [← Nat.add_mul]
        congr 1
        omega
      · simp only [Array.toList_append, ← hl]
        exact List.take_left
    have hbel : ∀ ob, Below w.heap.size w (w.drew.alloc ob) := fun ob => ⟨rfl, rfl, rfl, by simp, fun k hk => heap_old w.drew ob k hk⟩
    have hmb : (m : Int) ≤ 9223372036854775807 := by simp only [maxLen] at h63; omega
    cases B with
    | none =>
      have hr := run_append_nil (P := P) w t ty e i z ht hi hz ⟨b, off, none⟩ m c news (by rw [hsize]; exact hl) hn' hm hmb (by rw [hby]; omega)
      exact ⟨_, _, hr, hbel _, hfin _ rfl⟩
    | some b0 =>
      have hr := run_append_grow (P := P) w t ty e i z ht hi hz b0 0 0 [] (by simp) (by simp) ⟨b, off, none⟩ m c news (by rw [hsize]; exact hl) hn' (by omega) (by simpa using hmb) (by
        rw [Nat.zero_add, nextslicecap_zero hm, hby]
        omega)
      simp only [Nat.zero_add] at hr
      exact ⟨_, _, hr, hbel _, hfin _ (by simp)⟩

theorem wpList_append_emptyN (hgd : o.guard = none) (s x : Operand) (t : TypeId) (ho : o.op = .call { callee := .builtin .append, args := #[s, x], argTypes := #[t, t] })
    (base : Nat) (e : TypeId) (i : TypeInfo) (z : Value) (size bytes : Nat) (ht : P.underlying t = some (.slice e)) (hi : P.info? e = some i) (hz : i.zero = some z)
    (hsize : i.size = size) (hby : i.bytes = bytes) (hzs : z.cells.size = size) (hsz : 0 < size)
    (B : Option Addr) (hs : a.eval s = .slice B 0 0) (hown : w.ownsRow base e size (.slice B 0 0) 0 [])
    (A : Option Addr) (m c : Nat) (news : List Value) (hx : a.eval x = .slice A m c) (hl : news.length = m * size) (hnews : Row w A news)
    (hbytes : m * bytes ≤ 140737488355328) (h63 : m ≤ maxLen) (hbase : base ≤ w.heap.size)
    (h : ∀ v' w', Below w.heap.size w w' → w'.ownsRow base e size v' m news → wpList P ops Q rest (a.put o.dst v') w') : wpList P ops Q (o :: rest) a w := by
  refine wpList_plain hgd fun K hK => ?_
  obtain ⟨v', w', hrun, h1, h2⟩ := run_append_emptyN (P := P) (w := w) t o.type e base i z size bytes ht hi hz hsize hby hzs hsz B hown A m c news hl hnews hbytes h63 hbase
  unfold Oper.wp
  simp [execOp, ho, resolve, invoke, builtin, hs, hx, hrun, Result.andThen]
  exact hK _ _ (h _ _ h1 h2)
end
end Go.Proofs.Ytjampaggidelgaa
