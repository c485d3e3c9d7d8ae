/- A new table. -/
import Derived.Test.YtjampaggidelgaaDone
import Derived.Test.YtjampaggidelgaaRely
import Derived.Laws.MakeOwn
namespace Go.Proofs.Ytjampaggidelgaa
open Go.RowKit
set_option linter.unusedSimpArgs false
set_option linter.unusedVariables false

def bad (n : Nat) : Bool := decide (n < 1) || decide (1099511627776 < n)
theorem most_any (n : Nat) (w : World) : Calls Try.prog 26 #[.int .u64 n] w fun e w' => e = .returned (.bool (bad n)) ∧ w' = w := by
  by_cases h1 : n < 1
  · have e : bad n = true := by simp [bad, h1]
    rw [e]
    have h1' : (n : Int) < 1 := by omega
    clear e h1
    go_enter Try.func26, Try.ntmps26
    go_wp2
    go_ret
    exact ⟨rfl, rfl⟩
  · by_cases h2 : 1099511627776 < n
    · have e : bad n = true := by simp [bad, h2]
      rw [e]
      have h1' : ¬ (n : Int) < 1 := by omega
      have h2' : (1099511627776 : Int) < n := by omega
      clear e h1 h2
      go_enter Try.func26, Try.ntmps26
      go_wp2
      go_ret
      exact ⟨rfl, rfl⟩
    · have e : bad n = false := by simp [bad, h2]; omega
      rw [e]
      have h1' : ¬ (n : Int) < 1 := by omega
      have h2' : ¬ (1099511627776 : Int) < n := by omega
      clear e h1 h2
      go_enter Try.func26, Try.ntmps26
      go_wp2
      go_ret
      exact ⟨rfl, rfl⟩
theorem infoJob : (Try.prog.info? 40).map (fun i => (i.zero, i.size, i.bytes)) = some (some (.agg #[.bool false, .int .u64 0, .int .u64 0, .int .i64 0, .int .u64 0]), 5, 40) := by kernel_rfl
theorem made_zero (n : Nat) (h : n ≤ 16) : madeCells (Value.agg #[.bool false, .int .u64 0, .int .u64 0, .int .i64 0, .int .u64 0]).cells (n * 5) = (flat (List.replicate n Job.zero)).toArray := by
  rcases n with _|_|_|_|_|_|_|_|_|_|_|_|_|_|_|_|_|n
  case succ.succ.succ.succ.succ.succ.succ.succ.succ.succ.succ.succ.succ.succ.succ.succ.succ => omega
  all_goals kernel_rfl
theorem make_jobs (n : Nat) (h : n ≤ 16) (w : World) : (Instr.makeSlice 41 (.int .i64 (n : Int)) (.int .i64 (n : Int))).run Try.prog w =
    .ok (.slice (some ⟨w.heap.size, 0, none⟩) n n) (w.alloc (.cells (flat (List.replicate n Job.zero)).toArray 40)) := by
  obtain ⟨i0, hi, hz0, hz1, hz2⟩ := info_parts infoJob
  rw [run_makeSlice w 41 40 i0 _ Try.underlying41 hi hz0 .i64 .i64 n n (by omega) (Int.le_refl _) (by rw [hz1]; simp; omega) (by rw [hz2]; omega) (by omega)]
  rw [hz1, Int.toNat_natCast, made_zero n h]
def Times.v (t : Times) : Value := .agg #[.int .u64 t.lease, .int .u64 t.wait, .int .u64 t.most]
theorem new_bad (n : Int) (t : Times) (last : Int) (w : World) (h : n < 1 ∨ 16 < n) :
    Calls Try.prog 11 #[.int .i64 n, .agg #[.int .u64 t.lease, .int .u64 t.wait, .int .u64 t.most], .int .u64 last] w fun e w' => e = .returned (.tuple #[.pointer none, .int .i64 2]) ∧ Below w.heap.size w w' := by
  by_cases h1 : n < 1
  · clear h
    go_enter Try.func11, Try.ntmps11
    go_wp2
    go_ret2
    exact ⟨rfl, (Below.refl _ _).alloc (Nat.le_refl _) _⟩
  · have h2 : 16 < n := by omega
    clear h
    go_enter Try.func11, Try.ntmps11
    go_wp2
    go_ret2
    exact ⟨rfl, (Below.refl _ _).alloc (Nat.le_refl _) _⟩
set_option maxHeartbeats 1600000 in
theorem new_ok (n : Nat) (t : Times) (last : Nat) (w : World) (h1 : 1 ≤ n) (h2 : n ≤ 16) (hl : bad t.lease = false) (hw : bad t.wait = false) (hm : bad t.most = false) (hwm : ¬ t.most < t.wait) (hlast : last < 18446744073709551616) :
    Calls Try.prog 11 #[.int .i64 n, .agg #[.int .u64 t.lease, .int .u64 t.wait, .int .u64 t.most], .int .u64 last] w fun e w' => ∃ p B, e = .returned (.tuple #[.pointer (some ⟨p, 0, none⟩), .int .i64 0]) ∧
      TabAt w' p B (List.replicate n Job.zero) t last ∧ Below w.heap.size w w' ∧ w.heap.size ≤ p ∧ w.heap.size ≤ B := by
  have HL := Hd.mk hl
  have HW := Hd.mk hw
  have HM := Hd.mk hm
  have hwm' : ¬ (t.most : Int) < (t.wait : Int) := by omega
  clear hl hw hm hwm
  go_enter Try.func11, Try.ntmps11
  go_wp2_with fail
  have hy := fun w => most_any t.lease w
  refine (hy _).mono ?_
  clear hy
  rw [HL.out]
  rintro e w' ⟨rfl, rfl⟩
  go_wp2_with fail
  have hy := fun w => most_any t.wait w
  refine (hy _).mono ?_
  clear hy
  rw [HW.out]
  rintro e w' ⟨rfl, rfl⟩
  go_wp2_with fail
  have hy := fun w => most_any t.most w
  refine (hy _).mono ?_
  clear hy
  rw [HM.out]
  rintro e w' ⟨rfl, rfl⟩
  go_wp2_with fail
  obtain ⟨y0, hy0⟩ : ∃ y, y = w.alloc (.cells #[.int .u64 t.lease, .int .u64 t.wait, .int .u64 t.most] 24) := ⟨_, rfl⟩
  rw [← hy0]
  have hrow : Row y0 (some ⟨w.heap.size, 0, none⟩) [.int .u64 t.lease, .int .u64 t.wait, .int .u64 t.most] := by rw [hy0]; exact row_new _ _ _ _
  have hbw : Below w.heap.size w y0 := by rw [hy0]; exact (Below.refl _ _).alloc (Nat.le_refl _) _
  have HR := Hd.mk hrow
  have HB := Hd.mk hbw
  clear hrow hbw hy0
  refine wp_region_rely (by kernel_rfl) (by kernel_rfl) (fun i v w' => match i with
    | 0 => v = .int .i64 n
    | 1 => ∃ B, v = .slice (some ⟨B, 0, none⟩) n n ∧ w'.heap[B]? = some (.cells (flat (List.replicate n Job.zero)).toArray 40 (0, 0)) ∧ y0.heap.size ≤ B
    | 2 => v = .agg #[.int .u64 t.lease, .int .u64 t.wait, .int .u64 t.most]
    | 3 => v = .int .u64 last
    | 4 => ∃ B, v = .agg (head B n t last) ∧ w'.heap[B]? = some (.cells (flat (List.replicate n Job.zero)).toArray 40 (0, 0)) ∧ y0.heap.size ≤ B
    | 7 => v = .int .i64 0
    | _ => ∃ p B, v = .pointer (some ⟨p, 0, none⟩) ∧ w'.heap[p]? = some (.cells (head B n t last) 65 (0, 0)) ∧ w'.heap[B]? = some (.cells (flat (List.replicate n Job.zero)).toArray 40 (0, 0)) ∧ p ≠ B ∧ y0.heap.size ≤ B ∧ y0.heap.size ≤ p)
    (fun w1 w2 => Below w1.heap.size w1 w2) (Below.refl _ _) (fun w1 w2 w3 h1 h2 => h1.trans (h2.mono h1.size)) ?_ (n := 46) (by kernel_rfl) rfl ?_ ?_
  · have keep : ∀ {w1 w2 : World} {b : Nat} {o : Obj}, Below w1.heap.size w1 w2 → w1.heap[b]? = some o → w2.heap[b]? = some o := fun hb h => by
      rw [hb.block _ (Array.getElem?_eq_some_iff.1 h).1]; exact h
    intro i v w1 w2 h1 h2
    match i, h1 with
    | 0, h1 | 2, h1 | 3, h1 | 7, h1 => exact h1
    | 1, ⟨B, e, hp, hs⟩ => exact ⟨B, e, keep h2 hp, hs⟩
    | 4, ⟨B, e, hp, hs⟩ => exact ⟨B, e, keep h2 hp, hs⟩
    | 5, ⟨p, B, e, hp, hq, hs⟩ | 6, ⟨p, B, e, hp, hq, hs⟩ | _ + 8, ⟨p, B, e, hp, hq, hs⟩ => exact ⟨p, B, e, keep h2 hp, keep h2 hq, hs⟩
  · simp only [Obl]
    refine ⟨?_, ?_, ?_, ?_, ?_, ?_, ?_, ?_, trivial⟩
    all_goals
      intro vs w' hR hK
      simp [depsOf, Region.binds, putsOn, dstOf, Act.put, Known, seen] at hK ⊢
    case refine_1 | refine_4 | refine_8 => go_wp2; exact ⟨rfl, rfl, Below.refl _ _, rfl⟩
    case refine_3 =>
      have hr := HR.out.below (below_undrew hR)
      obtain ⟨b0, o0, e0, c0⟩ := hr 0 (by simp)
      obtain ⟨b1, o1, e1, c1⟩ := hr 1 (by simp)
      obtain ⟨b2, o2, e2, c2⟩ := hr 2 (by simp)
      simp only [Option.some.injEq, Addr.mk.injEq, and_true] at e0 e1 e2
      obtain ⟨rfl, rfl⟩ := e0
      obtain ⟨rfl, rfl⟩ := e1
      obtain ⟨rfl, rfl⟩ := e2
      simp only [List.getElem_cons_succ, List.getElem_cons_zero, Nat.zero_add] at c0 c1 c2
      clear hr
      go_wp2
      exact ⟨rfl, rfl, Below.refl _ _, rfl⟩
    case refine_5 =>
      obtain ⟨⟨B, hB, hp, hs⟩, h2, h3⟩ := hK
      have HP := Hd.mk hp
      clear hp
      go_wp2
      exact ⟨rfl, rfl, Below.refl _ _, B, rfl, HP.out, hs⟩
    case refine_6 =>
      obtain ⟨B, hB, hp, hs⟩ := hK
      have hsz := (below_undrew hR).size
      have HP := Hd.mk hp
      clear hp
      simp only [head] at hB
      go_wp2
      refine ⟨rfl, rfl, (Below.refl _ _).alloc (Nat.le_refl _) _, _, rfl, B, heap_new _ _, ?_, ?_, hs, hsz⟩
      · rw [heap_old _ _ _ (Array.getElem?_eq_some_iff.1 HP.out).1]
        exact HP.out
      · have := (Array.getElem?_eq_some_iff.1 HP.out).1
        omega
    case refine_7 =>
      have h5 := hK.1
      clear hK
      go_wp2
      exact ⟨rfl, rfl, Below.refl _ _, h5⟩
    case refine_2 =>
      have hsz := (below_undrew hR).size
      have hnn : (n : Int) ≤ 16 := by omega
      have hmk := make_jobs n h2 w'
      go_wp2
      exact ⟨rfl, rfl, (Below.refl _ _).alloc (Nat.le_refl _) _, _, rfl, heap_new _ _, hsz⟩
  · intro vs w' hR hK
    simp [Known, List.range, List.range.loop] at hK
    obtain ⟨-, -, -, -, -, -, ⟨p, h6, B, hp, hq, hne, hsB, hsp⟩, h7⟩ := hK
    have hb := below_undrew hR
    have H6 := Hd.mk (And.intro hp (And.intro hq (And.intro hne (And.intro hsB hsp))))
    have HBL := Hd.mk hb
    have hsz := HB.out.size
    clear hp hq hne hsB hsp hR hb
    simp [putsOn, dstOf, Act.put, List.range, List.range.loop]
    go_wp2
    go_ret2
    refine ⟨p, B, by simp [h6, h7], ?_, HB.out.trans (HBL.out.mono hsz), Nat.le_trans hsz H6.out.2.2.2.2, Nat.le_trans hsz H6.out.2.2.2.1⟩
    have hl := HL.out
    have hw := HW.out
    have hm := HM.out
    simp [bad] at hl hw hm
    exact { head := by rw [List.length_replicate]; exact H6.out.1, body := H6.out.2.1, ne := H6.out.2.2.1, small := by rw [List.length_replicate]; exact h2, fits := (fun j hj => by rw [(List.mem_replicate.1 hj).2]; exact ⟨pos64, pos64, Nat.zero_le _, pos64⟩), tl := hl.2, tw := hw.2, tm := hm.2, lastFits := hlast }
end Go.Proofs.Ytjampaggidelgaa
