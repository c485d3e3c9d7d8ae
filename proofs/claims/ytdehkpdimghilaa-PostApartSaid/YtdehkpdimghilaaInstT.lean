/- The walks of a box's methods at one type of things. -/
import Derived.Test.YtdehkpdimghilaaProg
import Derived.Test.YtdehkpdimghilaaBoxWords
import Derived.KernelRfl
namespace Go.Proofs.Ytdehkpdimghilaa.T
open Go.Conc Go.RowKit
set_option linter.unusedSimpArgs false
set_option linter.unusedVariables false

theorem put_room (p c room : Nat) (xs : List Value) (n : Int) (w : World) (h : BoxAt w p c 73 room xs) (hr : xs.length < room) :
    Calls Try.prog 20 #[.pointer (some ⟨p, 0, none⟩), (.agg #[.int .i64 n])] w fun e w' => e = .returned (.int .i64 0) ∧ Step w w' c room (xs ++ [(.agg #[.int .i64 n])]) := by
  have hcell := h.cell
  have hplt := h.lt
  obtain ⟨s, r, hc⟩ := h.chan
  have hlt := h.chan.lt
  have H : Hd ((w.alloc (.cells #[.int .i64 n] 47)).heap[c]? = some (.chan room xs.toArray false s r false)) := ⟨(heap_old _ _ c hlt).trans hc⟩
  clear h hc
  refine calls_of_wpN Try.func20 rfl ?_
  simp only [Try.ntmps20, List.size_toArray, List.length_cons, List.length_nil, Nat.reduceAdd, Nat.reduceSub, Array.replicate_succ, Array.replicate_zero, List.push_toArray, List.append_toArray, List.nil_append, List.cons_append]
  refine wpN_seq (wpN_of ?_)
  go_wp2
  refine wpN_seq (wpN_of ?_)
  go_wp2
  refine wpN_seq (wpN_of ?_)
  go_wp2
  refine wpN_seq (wpN_send_room (v := (.agg #[.int .i64 n])) (z := .agg #[.int .i64 0]) rfl (by simp [go_sem, execOp, scase, Act.eval]) H.out (by simpa using hr) ?_)
  go_wp2
  refine wpN_of ?_
  go_wp2
  go_ret
  exact ⟨rfl, grownBy_set (grownBy_alloc (grownBy_refl _ _) _) _ _ _ _, holds_set (by simp; omega) (by simp)⟩
theorem take_some (p c room : Nat) (n : Int) (xs : List Value) (w : World) (h : BoxAt w p c 73 room ((.agg #[.int .i64 n]) :: xs)) :
    Calls Try.prog 22 #[.pointer (some ⟨p, 0, none⟩)] w fun e w' => e = .returned (.tuple #[(.agg #[.int .i64 n]), .bool true]) ∧ Step w w' c room xs := by
  have hcell := h.cell
  have hplt := h.lt
  obtain ⟨s, r, hc⟩ := h.chan
  have hlt := h.chan.lt
  have H : Hd ((w.alloc (.cells #[.int .i64 0] 47)).heap[c]? = some (.chan room ((.agg #[.int .i64 n]) :: xs).toArray false s r false)) := ⟨(heap_old _ _ c hlt).trans hc⟩
  clear h hc
  refine calls_of_wpN Try.func22 rfl ?_
  simp only [Try.ntmps22, List.size_toArray, List.length_cons, List.length_nil, Nat.reduceAdd, Nat.reduceSub, Array.replicate_succ, Array.replicate_zero, List.push_toArray, List.append_toArray, List.nil_append, List.cons_append]
  refine wpN_seq (wpN_of ?_)
  go_wp2
  refine wpN_seq (wpN_of ?_)
  go_wp2
  refine wpN_seq (wpN_of ?_)
  go_wp2
  refine wpN_seq (wpN_recv_some (z := .agg #[.int .i64 0]) rfl (by simp [go_sem, execOp, rcase, Act.eval]) H.out (by simp) ?_)
  obtain ⟨w2, hw2⟩ : ∃ w2, w2 = (w.alloc (.cells #[.int .i64 0] 47)).setChan c room ((((.agg #[.int .i64 n]) :: xs).toArray).extract 1 ((.agg #[.int .i64 n]) :: xs).toArray.size) false s (r + 1) false := ⟨_, rfl⟩
  rw [← hw2]
  have hb : w2.heap[w.heap.size]? = some (.cells #[.int .i64 0] 47) := by
    rw [hw2]
    simp only [World.setChan]
    rw [Array.getElem?_setIfInBounds_ne (by omega)]
    exact heap_new _ _
  have hc1 : w2.cell? ⟨w.heap.size, 0, none⟩ = some (.int .i64 0) := by
    unfold World.cell?
    rw [hb]
    rfl
  have hf1 : w2.frozen? ⟨w.heap.size, 0, none⟩ = false := by
    unfold World.frozen?
    rw [hb]
    rfl
  have HG : Hd (w.grownBy w2 (some c) ∧ Holds w2 c room xs) := ⟨by
    rw [hw2]
    exact ⟨grownBy_set (grownBy_alloc (grownBy_refl _ _) _) _ _ _ _, holds_set (by simp; omega) (by simp)⟩⟩
  clear hw2 hb
  go_wp2
  refine wpN_of ?_
  go_wp2
  refine bodyPost_ret (v := .tuple #[.agg #[.int .i64 n], .bool true]) (by simp [results, Try.results22, go_sem, hc1]) rfl ⟨rfl, ?_, ?_⟩
  · exact grownBy_setCell (grownBy_setCell HG.out.1 (by simp) _) (by simp) _
  · obtain ⟨s', r', hh⟩ := HG.out.2
    refine ⟨s', r', ?_⟩
    rw [Below.heap_setCell _ _ _ _ (by simp; omega), Below.heap_setCell _ _ _ _ (by simp; omega)]
    exact hh
theorem len_any (p c room : Nat) (xs : List Value) (w : World) (h : BoxAt w p c 73 room xs) :
    Calls Try.prog 23 #[.pointer (some ⟨p, 0, none⟩)] w fun e w' => e = .returned (.int .i64 xs.length) ∧ w = w' := by
  have hcell := h.cell
  have hplt := h.lt
  obtain ⟨s, r, hc⟩ := h.chan
  have hl := fun ty => run_len_chan (P := Try.prog) 71 ty Try.underlying71 hc
  clear h hc
  go_enter Try.func23, Try.ntmps23
  go_wp2
  go_ret
  exact ⟨by simp, rfl⟩

theorem infoE : (Try.prog.info? 47).map (fun i => (i.zero, i.size, i.bytes)) = some (some (.agg #[.int .i64 0]), 1, 8) := by kernel_rfl
theorem make_chan (n : Nat) (hn : n ≤ 256) (w : World) : (Instr.makeChan 71 (.int .i64 (n : Int))).run Try.prog w = .ok (.chan (some w.heap.size)) (w.alloc (.chan n #[] false 0 0 false)) := by
  obtain ⟨i0, hi, hz0, hz1, hz2⟩ := info_parts infoE
  exact run_makeChan (P := Try.prog) (w := w) Try.underlying71 hi .i64 n (by omega) (by rw [hz2]; omega)
theorem new_bad (n : Int) (w : World) (h : n < 1 ∨ 256 < n) : Calls Try.prog 18 #[.int .i64 n] w fun e w' => e = .returned (.tuple #[.pointer none, .int .i64 2]) ∧ w = w' := by
  by_cases h1 : n < 1
  · go_enter Try.func18, Try.ntmps18
    go_wp2
    go_ret2
    exact ⟨rfl, rfl⟩
  · have h2 : 256 < n := by omega
    go_enter Try.func18, Try.ntmps18
    go_wp2
    go_ret2
    exact ⟨rfl, rfl⟩
theorem new_ok (n : Nat) (w : World) (h1 : 1 ≤ n) (h2 : n ≤ 256) :
    Calls Try.prog 18 #[.int .i64 n] w fun e w' => ∃ p c, e = .returned (.tuple #[.pointer (some ⟨p, 0, none⟩), .int .i64 0]) ∧ BoxAt w' p c 73 n [] ∧ Below w.heap.size w w' ∧ w.heap.size ≤ p ∧ w.heap.size ≤ c := by
  have hm := make_chan n h2
  go_enter Try.func18, Try.ntmps18
  go_wp2
  go_ret2
  refine ⟨w.heap.size + 1, w.heap.size, rfl, ⟨?_, ?_, Nat.zero_le _, h2⟩, ((Below.refl _ _).alloc (Nat.le_refl _) _).alloc (by simp) _, by omega, Nat.le_refl _⟩
  · have := heap_new (w.alloc (.chan n #[] false 0 0 false)) (.cells #[.chan (some w.heap.size)] 73)
    rw [World.size_alloc] at this
    exact ⟨_, this⟩
  · refine ⟨0, 0, ?_⟩
    rw [heap_old _ _ _ (by simp)]
    exact heap_new _ _

end Go.Proofs.Ytdehkpdimghilaa.T
