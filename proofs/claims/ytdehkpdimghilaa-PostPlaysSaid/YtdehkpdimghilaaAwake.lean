/- The walk of Awake. -/
import Derived.Test.YtdehkpdimghilaaInstS
namespace Go.Proofs.Ytdehkpdimghilaa
open Go.RowKit
set_option linter.unusedSimpArgs false
set_option linter.unusedVariables false

set_option maxRecDepth 100000 in
set_option maxHeartbeats 800000 in
theorem awake (w : World) : Calls Try.prog 8 #[] w fun e w' => e = .returned (.bool true) ∧ Below w.heap.size w w' := by
  go_enter Try.func8, Try.ntmps8
  go_wp2_with fail
  refine (S.new_ok 3 w (by omega) (by omega)).mono ?_
  rintro e w1 ⟨p, c, rfl, hb1, hbl1, hp, hc⟩
  have B1 := Hd.mk hb1
  have L1 := Hd.mk hbl1
  clear hb1 hbl1
  go_wp2_with fail
  refine (S.put_room p c 3 [] _ w1 B1.out (by simp)).mono ?_
  rintro e w2 ⟨rfl, hs⟩
  have B2 : Hd (BoxAt w2 p c 76 3 [.string ⟨#[97]⟩]) := ⟨B1.out.step hs (by simp)⟩
  have L2 : Hd (Below w.heap.size w w2) := ⟨hs.under L1.out L1.out.size hc⟩
  clear hs
  go_wp2_with fail
  refine (S.put_room p c 3 [.string ⟨#[97]⟩] _ w2 B2.out (by simp)).mono ?_
  rintro e w3 ⟨rfl, hs⟩
  have B3 : Hd (BoxAt w3 p c 76 3 [.string ⟨#[97]⟩, .string ⟨#[98]⟩]) := ⟨B2.out.step hs (by simp)⟩
  have L3 : Hd (Below w.heap.size w w3) := ⟨hs.under L2.out L2.out.size hc⟩
  clear hs
  go_wp2_with fail
  refine (S.double_some p c 3 (.string ⟨#[97]⟩) [.string ⟨#[98]⟩] w3 B3.out (by simp)).mono ?_
  rintro e w4 ⟨rfl, hs⟩
  have B4 : Hd (BoxAt w4 p c 76 3 [.string ⟨#[97]⟩, .string ⟨#[98]⟩, .string ⟨#[97]⟩]) := ⟨B3.out.step hs (by simp)⟩
  have L4 : Hd (Below w.heap.size w w4) := ⟨hs.under L3.out L3.out.size hc⟩
  clear hs
  go_wp2_with fail
  refine (S.turn_some p c 3 (.string ⟨#[97]⟩) [.string ⟨#[98]⟩, .string ⟨#[97]⟩] w4 B4.out).mono ?_
  rintro e w5 ⟨rfl, hs⟩
  have B5 : Hd (BoxAt w5 p c 76 3 [.string ⟨#[98]⟩, .string ⟨#[97]⟩, .string ⟨#[97]⟩]) := ⟨B4.out.step hs (by simp)⟩
  have L5 : Hd (Below w.heap.size w w5) := ⟨hs.under L4.out L4.out.size hc⟩
  clear hs
  go_wp2_with fail
  refine (S.all_any p c 3 [.string ⟨#[98]⟩, .string ⟨#[97]⟩, .string ⟨#[97]⟩] w5 B5.out ?_).mono ?_
  · intro u hu
    simp only [List.mem_cons, List.not_mem_nil, or_false] at hu
    rcases hu with rfl | rfl | rfl <;> exact ⟨_, rfl⟩
  rintro e w6 ⟨v, rfl, hs, hown⟩
  have B6 : Hd (BoxAt w6 p c 76 3 [.string ⟨#[98]⟩, .string ⟨#[97]⟩, .string ⟨#[97]⟩]) := ⟨B5.out.step hs (by simp)⟩
  have L6 : Hd (Below w.heap.size w w6) := ⟨hs.under L5.out L5.out.size hc⟩
  obtain ⟨g, cp, rfl, -⟩ := own_form hown (by simp)
  have c0 := hown.cellAt 0 (by simp)
  have c1 := hown.cellAt 1 (by simp)
  have c2 := hown.cellAt 2 (by simp)
  simp at c0 c1 c2
  clear hs hown
  go_wp2_with fail
  refine (S.put_full p c 3 [.string ⟨#[98]⟩, .string ⟨#[97]⟩, .string ⟨#[97]⟩] _ w6 B6.out (by simp)).mono ?_
  rintro e w7 ⟨rfl, rfl⟩
  go_wp2
  go_ret
  exact ⟨rfl, L6.out⟩
end Go.Proofs.Ytdehkpdimghilaa
