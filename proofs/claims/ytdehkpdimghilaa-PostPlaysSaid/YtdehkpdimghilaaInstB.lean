/- The walks of a box's methods at one type of things. -/
import Derived.Test.YtdehkpdimghilaaProg
import Derived.Test.YtdehkpdimghilaaBoxWords
import Derived.KernelRfl
namespace Go.Proofs.Ytdehkpdimghilaa.B
open Go.Conc Go.RowKit
set_option linter.unusedSimpArgs false
set_option linter.unusedVariables false

theorem put_nil (v : Value) (w : World) : Calls Try.prog 13 #[.pointer none, v] w fun e w' => e = .returned (.int .i64 1) ∧ w = w' := by
  go_enter Try.func13, Try.ntmps13
  go_wp2
  go_ret
  exact ⟨rfl, rfl⟩
theorem put_room (p c room : Nat) (xs : List Value) (v : Value) (w : World) (h : BoxAt w p c 67 room xs) (hr : xs.length < room) :
    Calls Try.prog 13 #[.pointer (some ⟨p, 0, none⟩), v] w fun e w' => e = .returned (.int .i64 0) ∧ Step w w' c room (xs ++ [v]) := by
  have hcell := h.cell
  obtain ⟨s, r, hc⟩ := h.chan
  have hlt := h.chan.lt
  have H := Hd.mk hc
  clear h hc
  refine calls_of_wpN Try.func13 rfl ?_
  simp only [Try.ntmps13, List.size_toArray, List.length_cons, List.length_nil, Nat.reduceAdd, Nat.reduceSub, Array.replicate_succ, Array.replicate_zero, List.push_toArray, List.append_toArray, List.nil_append, List.cons_append]
  refine wpN_seq (wpN_of ?_)
  go_wp2
  refine wpN_seq (wpN_of ?_)
  go_wp2
  refine wpN_seq (wpN_of ?_)
  go_wp2
  refine wpN_seq (wpN_send_room (v := v) (z := .slice none 0 0) rfl (by simp [go_sem, execOp, scase, Act.eval]) H.out (by simpa using hr) ?_)
  go_wp2
  refine wpN_of ?_
  go_wp2
  go_ret
  exact ⟨rfl, grownBy_set (grownBy_refl _ _) _ _ _ _, holds_set hlt (by simp)⟩
theorem put_full (p c room : Nat) (xs : List Value) (v : Value) (w : World) (h : BoxAt w p c 67 room xs) (hr : xs.length = room) :
    Calls Try.prog 13 #[.pointer (some ⟨p, 0, none⟩), v] w fun e w' => e = .returned (.int .i64 50) ∧ w = w' := by
  have hcell := h.cell
  obtain ⟨s, r, hc⟩ := h.chan
  have H := Hd.mk hc
  have hle : room ≤ xs.toArray.size := by simp [hr]
  have HL := Hd.mk hle
  clear h hc hr hle
  refine calls_of_wpN Try.func13 rfl ?_
  simp only [Try.ntmps13, List.size_toArray, List.length_cons, List.length_nil, Nat.reduceAdd, Nat.reduceSub, Array.replicate_succ, Array.replicate_zero, List.push_toArray, List.append_toArray, List.nil_append, List.cons_append]
  refine wpN_seq (wpN_of ?_)
  go_wp2
  refine wpN_seq (wpN_of ?_)
  go_wp2
  refine wpN_seq (wpN_of ?_)
  go_wp2
  refine wpN_seq (wpN_send_full (v := v) (z := .slice none 0 0) rfl (by simp [go_sem, execOp, scase, Act.eval]) H.out HL.out ?_)
  go_wp2
  refine wpN_of ?_
  go_wp2
  go_ret
  exact ⟨rfl, rfl⟩

theorem take_nil (w : World) : Calls Try.prog 10 #[.pointer none] w fun e w' => e = .returned (.tuple #[.slice none 0 0, .bool false]) ∧ w = w' := by
  go_enter Try.func10, Try.ntmps10
  go_wp2
  go_ret2
  exact ⟨rfl, rfl⟩
theorem take_some (p c room : Nat) (x : Value) (xs : List Value) (w : World) (h : BoxAt w p c 67 room (x :: xs)) :
    Calls Try.prog 10 #[.pointer (some ⟨p, 0, none⟩)] w fun e w' => e = .returned (.tuple #[x, .bool true]) ∧ Step w w' c room xs := by
  have hcell := h.cell
  obtain ⟨s, r, hc⟩ := h.chan
  have hlt := h.chan.lt
  have H := Hd.mk hc
  clear h hc
  refine calls_of_wpN Try.func10 rfl ?_
  simp only [Try.ntmps10, List.size_toArray, List.length_cons, List.length_nil, Nat.reduceAdd, Nat.reduceSub, Array.replicate_succ, Array.replicate_zero, List.push_toArray, List.append_toArray, List.nil_append, List.cons_append]
  refine wpN_seq (wpN_of ?_)
  go_wp2
  refine wpN_seq (wpN_of ?_)
  go_wp2
  refine wpN_seq (wpN_of ?_)
  go_wp2
  refine wpN_seq (wpN_recv_some (z := .slice none 0 0) rfl (by simp [go_sem, execOp, rcase, Act.eval]) H.out (by simp) ?_)
  go_wp2
  refine wpN_of ?_
  go_wp2
  go_ret2
  exact ⟨rfl, grownBy_set (grownBy_refl _ _) _ _ _ _, holds_set hlt (by simp)⟩
theorem take_none (p c room : Nat) (w : World) (h : BoxAt w p c 67 room []) :
    Calls Try.prog 10 #[.pointer (some ⟨p, 0, none⟩)] w fun e w' => e = .returned (.tuple #[.slice none 0 0, .bool false]) ∧ w = w' := by
  have hcell := h.cell
  obtain ⟨s, r, hc⟩ := h.chan
  have H := Hd.mk hc
  clear h hc
  refine calls_of_wpN Try.func10 rfl ?_
  simp only [Try.ntmps10, List.size_toArray, List.length_cons, List.length_nil, Nat.reduceAdd, Nat.reduceSub, Array.replicate_succ, Array.replicate_zero, List.push_toArray, List.append_toArray, List.nil_append, List.cons_append]
  refine wpN_seq (wpN_of ?_)
  go_wp2
  refine wpN_seq (wpN_of ?_)
  go_wp2
  refine wpN_seq (wpN_of ?_)
  go_wp2
  refine wpN_seq (wpN_recv_none (z := .slice none 0 0) rfl (by simp [go_sem, execOp, rcase, Act.eval]) H.out ?_)
  go_wp2
  refine wpN_of ?_
  go_wp2
  go_ret2
  exact ⟨rfl, rfl⟩

theorem len_nil (w : World) : Calls Try.prog 14 #[.pointer none] w fun e w' => e = .returned (.int .i64 0) ∧ w = w' := by
  go_enter Try.func14, Try.ntmps14
  go_wp2
  go_ret
  exact ⟨rfl, rfl⟩
theorem len_any (p c room : Nat) (xs : List Value) (w : World) (h : BoxAt w p c 67 room xs) :
    Calls Try.prog 14 #[.pointer (some ⟨p, 0, none⟩)] w fun e w' => e = .returned (.int .i64 xs.length) ∧ w = w' := by
  have hcell := h.cell
  obtain ⟨s, r, hc⟩ := h.chan
  have hl := fun ty => run_len_chan (P := Try.prog) 65 ty Try.underlying65 hc
  clear h hc
  go_enter Try.func14, Try.ntmps14
  go_wp2
  go_ret
  exact ⟨by simp, rfl⟩

theorem infoE : (Try.prog.info? 28).map (fun i => (i.zero, i.size, i.bytes)) = some (some (.slice none 0 0), 1, 24) := by kernel_rfl
theorem make_chan (n : Nat) (hn : n ≤ 256) (w : World) : (Instr.makeChan 65 (.int .i64 (n : Int))).run Try.prog w = .ok (.chan (some w.heap.size)) (w.alloc (.chan n #[] false 0 0 false)) := by
  obtain ⟨i0, hi, hz0, hz1, hz2⟩ := info_parts infoE
  exact run_makeChan (P := Try.prog) (w := w) Try.underlying65 hi .i64 n (by omega) (by rw [hz2]; omega)
theorem new_bad (n : Int) (w : World) (h : n < 1 ∨ 256 < n) : Calls Try.prog 9 #[.int .i64 n] w fun e w' => e = .returned (.tuple #[.pointer none, .int .i64 2]) ∧ w = w' := by
  by_cases h1 : n < 1
  · go_enter Try.func9, Try.ntmps9
    go_wp2
    go_ret2
    exact ⟨rfl, rfl⟩
  · have h2 : 256 < n := by omega
    go_enter Try.func9, Try.ntmps9
    go_wp2
    go_ret2
    exact ⟨rfl, rfl⟩
theorem new_ok (n : Nat) (w : World) (h1 : 1 ≤ n) (h2 : n ≤ 256) :
    Calls Try.prog 9 #[.int .i64 n] w fun e w' => ∃ p c, e = .returned (.tuple #[.pointer (some ⟨p, 0, none⟩), .int .i64 0]) ∧ BoxAt w' p c 67 n [] ∧ Below w.heap.size w w' ∧ w.heap.size ≤ p ∧ w.heap.size ≤ c := by
  have hm := make_chan n h2
  go_enter Try.func9, Try.ntmps9
  go_wp2
  go_ret2
  refine ⟨w.heap.size + 1, w.heap.size, rfl, ⟨?_, ?_, Nat.zero_le _, h2⟩, ((Below.refl _ _).alloc (Nat.le_refl _) _).alloc (by simp) _, by omega, Nat.le_refl _⟩
  · have := heap_new (w.alloc (.chan n #[] false 0 0 false)) (.cells #[.chan (some w.heap.size)] 67)
    rw [World.size_alloc] at this
    exact ⟨_, this⟩
  · refine ⟨0, 0, ?_⟩
    rw [heap_old _ _ _ (by simp)]
    exact heap_new _ _

theorem turn_nil (w : World) : Calls Try.prog 11 #[.pointer none] w fun e w' => e = .returned (.bool false) ∧ w = w' := by
  go_enter Try.func11, Try.ntmps11
  go_wp2_with fail
  refine (take_nil _).mono ?_
  rintro e w1 ⟨rfl, rfl⟩
  go_wp2
  go_ret
  exact ⟨rfl, rfl⟩
theorem turn_none (p c room : Nat) (w : World) (h : BoxAt w p c 67 room []) :
    Calls Try.prog 11 #[.pointer (some ⟨p, 0, none⟩)] w fun e w' => e = .returned (.bool false) ∧ w = w' := by
  have H := Hd.mk h
  clear h
  go_enter Try.func11, Try.ntmps11
  go_wp2_with fail
  refine (take_none p c room w H.out).mono ?_
  rintro e w1 ⟨rfl, rfl⟩
  go_wp2
  go_ret
  exact ⟨rfl, rfl⟩
theorem turn_some (p c room : Nat) (x : Value) (xs : List Value) (w : World) (h : BoxAt w p c 67 room (x :: xs)) :
    Calls Try.prog 11 #[.pointer (some ⟨p, 0, none⟩)] w fun e w' => e = .returned (.bool true) ∧ Step w w' c room (xs ++ [x]) := by
  have H := Hd.mk h
  have hl : xs.length < room := by have := h.fits; simp at this; omega
  clear h
  go_enter Try.func11, Try.ntmps11
  go_wp2_with fail
  refine (take_some p c room x xs w H.out).mono ?_
  rintro e w1 ⟨rfl, hs⟩
  have hb1 := H.out.step hs (by omega)
  have HS := Hd.mk hs
  have HB := Hd.mk hb1
  clear hs hb1
  go_wp2_with fail
  refine (put_room p c room xs x w1 HB.out hl).mono ?_
  rintro e w2 ⟨rfl, hs2⟩
  have HS2 := Hd.mk hs2
  clear hs2
  go_wp2
  go_ret
  exact ⟨by simp, HS.out.trans HS2.out⟩

theorem all_nil (w : World) : Calls Try.prog 16 #[.pointer none] w fun e w' => e = .returned (.slice none 0 0) ∧ w = w' := by
  go_enter Try.func16, Try.ntmps16
  go_wp2_with fail
  refine (len_nil _).mono ?_
  rintro e w1 ⟨rfl, rfl⟩
  go_wp2
  go_loop [3, 8] (fun v i => v = .slice none 0 0 ∧ i = .int .i64 0) (fun _ _ => 0)
  case atStart => exact ⟨rfl, rfl⟩
  case round =>
    obtain ⟨rfl, rfl⟩ := hrel
    go_wp2
    go_ret
    exact ⟨rfl, rfl⟩
theorem rot_step (l : List Value) (k : Nat) (h : k < l.length) : l.drop k ++ l.take k = l[k] :: (l.drop (k + 1) ++ l.take k) ∧ (l.drop (k + 1) ++ l.take k) ++ [l[k]] = l.drop (k + 1) ++ l.take (k + 1) := by
  refine ⟨by rw [List.drop_eq_getElem_cons h]; rfl, ?_⟩
  rw [List.take_succ_eq_append_getElem h, List.append_assoc]
set_option maxHeartbeats 400000 in
theorem all_any (p c room : Nat) (xs : List Value) (w : World) (h : BoxAt w p c 67 room xs) (h1 : ∀ u ∈ xs, ∃ t : (Option Addr × Nat × Nat), u = Value.slice t.1 t.2.1 t.2.2) :
    Calls Try.prog 16 #[.pointer (some ⟨p, 0, none⟩)] w fun e w' => ∃ v, e = .returned v ∧ Step w w' c room xs ∧ w'.ownsRow w.heap.size 28 1 v xs.length xs := by
  obtain ⟨i0, hi, hz0, hz1, hz2⟩ := info_parts infoE
  have HI0 := Hd.mk hi
  have HZ0 := Hd.mk hz0
  have HZ1 := Hd.mk hz1
  have HZ2 := Hd.mk hz2
  have H := Hd.mk h
  have H1 := Hd.mk h1
  have hxl : xs.length ≤ 256 := Nat.le_trans h.fits h.small
  clear h hi hz0 hz1 hz2 h1
  go_enter Try.func16, Try.ntmps16
  go_wp2_with fail
  refine (len_any p c room xs w H.out).mono ?_
  rintro e w1 ⟨rfl, rfl⟩
  go_wp2_with fail
  go_loopw [3, 8] (fun v i wr => ∃ k : Nat, k ≤ xs.length ∧ i = .int .i64 k ∧ wr.ownsRow w.heap.size 28 1 v k (xs.take k) ∧ Step w wr c room (xs.drop k ++ xs.take k)) (fun _ i _ => xs.length - (intOf i).toNat)
  case atStart => exact ⟨0, Nat.zero_le _, rfl, by simpa using World.ownsRow_nil w w.heap.size 28 1, by simpa using Step.refl H.out.chan⟩
  case round =>
    obtain ⟨k, hk, rfl, hown, hst⟩ := hrel
    by_cases hlt : k < xs.length
    · obtain ⟨e1, e2⟩ := rot_step xs k hlt
      rw [e1] at hst
      obtain ⟨x, hx⟩ : ∃ x, x = xs[k] := ⟨_, rfl⟩
      obtain ⟨t, rfl⟩ : ∃ t : (Option Addr × Nat × Nat), x = Value.slice t.1 t.2.1 t.2.2 := by rw [hx]; exact H1.out _ (List.getElem_mem _)
      obtain ⟨ys, hys⟩ : ∃ ys, ys = xs.drop (k + 1) ++ xs.take k := ⟨_, rfl⟩
      rw [← hx, ← hys] at hst e2
      have hyl : ys.length + 1 = xs.length := by rw [hys]; simp; omega
      have hfit : ys.length < room := by have := H.out.fits; omega
      have hb := H.out.step hst (by simp; omega)
      have HS := Hd.mk hst
      have HB := Hd.mk hb
      have HO := Hd.mk hown
      have HX := Hd.mk hx
      have HE := Hd.mk e2
      clear hst hb hown hx hys e1 e2
      go_wp2_with fail
      refine (take_some p c room (Value.slice t.1 t.2.1 t.2.2) ys wr HB.out).mono ?_
      rintro e w2 ⟨rfl, hs2⟩
      have hc := H.out.chan.lt
      have HS2 := Hd.mk (HS.out.trans hs2)
      have HB2 := Hd.mk (HB.out.step hs2 (by omega))
      have HO2 := Hd.mk (own_step HO.out hs2 hc)
      clear hs2
      go_wp2_with (first
        | (at_builtin; refine wpList_append_row rfl (.tmp 15) (.tmp 17) 29 rfl w.heap.size 28 i0 (.slice none 0 0) 24 Try.underlying29 HI0.out HZ0.out HZ1.out HZ2.out rfl _ k (xs.take k) rfl (HO2.out.alloc _) (some ⟨w2.heap.size, 0, none⟩) 1 1 [Value.slice t.1 t.2.1 t.2.2] rfl rfl (row_new _ _ _ _) ?x0 ?x1 ?x2 ?x3 ?x4))
      case x0 => intro u hu; simp at hu; subst hu; rfl
      case x1 => omega
      case x2 => unfold maxLen; omega
      case x3 => have := HS2.out.grown.size; simp; omega
      case x4 =>
        intro v3 w3 ho3 hg3
        have hs3 := (HS2.out.alloc (.cells #[Value.slice t.1 t.2.1 t.2.2] 28)).own hg3 (fun j hj => (HO2.out.lt j hj).1) hc
        have hb3 : BoxAt w3 p c 67 room ys := H.out.step hs3 (by omega)
        have HS3 := Hd.mk hs3
        have HB3 := Hd.mk hb3
        have HO3 := Hd.mk ho3
        clear hs3 hb3 ho3 hg3
        go_wp2_with fail
        refine (put_room p c room ys (Value.slice t.1 t.2.1 t.2.2) w3 HB3.out hfit).mono ?_
        rintro e w4 ⟨rfl, hs4⟩
        have HO4 := Hd.mk (own_step HO3.out hs4 hc)
        have HS4 := Hd.mk (HS3.out.trans hs4)
        clear hs4
        go_wp2
        go_roundw
        case rel =>
          refine ⟨k + 1, by omega, by go_num, ?_, ?_⟩
          · rw [List.take_succ_eq_append_getElem hlt, ← HX.out]
            exact HO4.out
          · rw [← HE.out]
            exact HS4.out
        case measure => simp [intOf]; omega
    · obtain rfl : k = xs.length := by omega
      rw [List.drop_length, List.nil_append, List.take_length] at hst
      rw [List.take_length] at hown
      have HS := Hd.mk hst
      have HO := Hd.mk hown
      clear hst hown
      go_wp2
      go_ret
      exact ⟨_, rfl, HS.out, HO.out⟩

theorem double_nil (w : World) : Calls Try.prog 12 #[.pointer none] w fun e w' => e = .returned (.int .i64 1) ∧ w = w' := by
  go_enter Try.func12, Try.ntmps12
  go_wp2
  go_ret
  exact ⟨rfl, rfl⟩
theorem double_none (p c room : Nat) (w : World) (h : BoxAt w p c 67 room []) :
    Calls Try.prog 12 #[.pointer (some ⟨p, 0, none⟩)] w fun e w' => e = .returned (.int .i64 52) ∧ w = w' := by
  have H := Hd.mk h
  clear h
  go_enter Try.func12, Try.ntmps12
  go_wp2_with fail
  refine (len_any p c room [] w H.out).mono ?_
  rintro e w1 ⟨rfl, rfl⟩
  go_wp2
  go_ret
  exact ⟨rfl, rfl⟩
theorem double_full (p c room : Nat) (xs : List Value) (w : World) (h : BoxAt w p c 67 room xs) (h0 : 0 < xs.length) (hf : xs.length = room) :
    Calls Try.prog 12 #[.pointer (some ⟨p, 0, none⟩)] w fun e w' => e = .returned (.int .i64 50) ∧ w = w' := by
  have hcell := h.cell
  obtain ⟨s, r, hc⟩ := h.chan
  have hcap := fun ty => run_cap_chan (P := Try.prog) 65 ty Try.underlying65 hc
  have H := Hd.mk h
  have hz : ((xs.length : Int) == 0) = false := by rw [beq_eq_false_iff_ne]; omega
  subst hf
  clear h hc
  go_enter Try.func12, Try.ntmps12
  go_wp2_with fail
  refine (len_any p c xs.length xs w H.out).mono ?_
  rintro e w1 ⟨rfl, rfl⟩
  go_wp2
  go_ret
  exact ⟨rfl, rfl⟩
set_option maxHeartbeats 400000 in
theorem double_some (p c room : Nat) (x : Value) (xs : List Value) (w : World) (h : BoxAt w p c 67 room (x :: xs)) (hf : xs.length + 1 < room) :
    Calls Try.prog 12 #[.pointer (some ⟨p, 0, none⟩)] w fun e w' => e = .returned (.int .i64 0) ∧ Step w w' c room ((x :: xs) ++ [x]) := by
  have hcell := h.cell
  obtain ⟨s, r, hc⟩ := h.chan
  have hcap := fun ty => run_cap_chan (P := Try.prog) 65 ty Try.underlying65 hc
  have hrs := h.small
  have H := Hd.mk h
  clear h hc
  obtain ⟨n, hn⟩ : ∃ n, n = xs.length := ⟨_, rfl⟩
  have hn' : n + 1 < room := by omega
  have HN := Hd.mk hn
  have hz : ((n : Int) + 1 == 0) = false := by rw [beq_eq_false_iff_ne]; omega
  have hz2 : ((n : Int) + 1 == (room : Int)) = false := by rw [beq_eq_false_iff_ne]; omega
  clear hn hf
  go_enter Try.func12, Try.ntmps12
  go_wp2_with fail
  refine (len_any p c room (x :: xs) w H.out).mono ?_
  rintro e w1 ⟨rfl, rfl⟩
  rw [show (((x :: xs).length : Nat) : Int) = (n : Int) + 1 from by simp [HN.out]]
  go_wp2_with fail
  refine (take_some p c room x xs w H.out).mono ?_
  rintro e w2 ⟨rfl, hs2⟩
  have HS2 := Hd.mk hs2
  have HB2 := Hd.mk (H.out.step hs2 (by have := HN.out; omega))
  clear hs2 hcap hcell
  go_wp2_with fail
  refine (put_room p c room xs x w2 HB2.out (by have := HN.out; omega)).mono ?_
  rintro e w3 ⟨rfl, hs3⟩
  have HS3 := Hd.mk (HS2.out.trans hs3)
  clear hs3
  obtain ⟨l, hl⟩ : ∃ l, l = xs ++ [x] := ⟨_, rfl⟩
  have HL := Hd.mk hl
  have hll : l.length = n + 1 := by rw [hl]; simp [HN.out]
  have HLL := Hd.mk hll
  clear hl hll
  go_wp2
  go_loopw [29] (fun i wr => ∃ k : Nat, k ≤ n ∧ i = .int .i64 k ∧ Step w wr c room (l.drop k ++ l.take k)) (fun i _ => n - (intOf i).toNat)
  case atStart => exact ⟨0, Nat.zero_le _, rfl, by rw [HL.out]; simpa using HS3.out⟩
  case round =>
    obtain ⟨k, hk, rfl, hst⟩ := hrel
    by_cases hlt : k < n
    · have hkl : k < l.length := by rw [HLL.out]; omega
      obtain ⟨e1, e2⟩ := rot_step l k hkl
      rw [e1] at hst
      have hb := H.out.step hst (by simp; rw [HLL.out]; omega)
      have HS := Hd.mk hst
      have HB := Hd.mk hb
      have HE := Hd.mk e2
      clear hst hb e1 e2
      go_wp2_with fail
      refine (turn_some p c room _ _ wr HB.out).mono ?_
      rintro e w5 ⟨rfl, hs5⟩
      have HS5 := Hd.mk (HS.out.trans hs5)
      clear hs5
      go_wp2
      go_roundw
      case rel =>
        refine ⟨k + 1, by omega, by go_num, ?_⟩
        rw [← HE.out]
        exact HS5.out
      case measure => simp [intOf]; omega
    · obtain rfl : k = n := by omega
      have hfin : l.drop k ++ l.take k = x :: xs := by
        rw [HL.out, HN.out]
        simp
      rw [hfin] at hst
      have hb := H.out.step hst (by simp; have := HN.out; omega)
      have HS := Hd.mk hst
      have HB := Hd.mk hb
      clear hst hb hfin
      go_wp2_with fail
      refine (put_room p c room (x :: xs) x wr HB.out (by simp; have := HN.out; omega)).mono ?_
      rintro e w6 ⟨rfl, hs6⟩
      have HS6 := Hd.mk (HS.out.trans hs6)
      clear hs6
      go_wp2
      go_ret
      exact ⟨rfl, HS6.out⟩
end Go.Proofs.Ytdehkpdimghilaa.B
