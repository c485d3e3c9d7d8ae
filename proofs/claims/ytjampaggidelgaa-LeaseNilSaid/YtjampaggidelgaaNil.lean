/- The law of nil tables. -/
import Derived.Test.YtjampaggidelgaaAwake
namespace Go.Proofs.Ytjampaggidelgaa
open Go.RowKit
set_option linter.unusedSimpArgs false
set_option linter.unusedVariables false
set_option maxHeartbeats 1600000 in
theorem leaseNil (k s : Int) (r : Bool) (j l : Int) (w : World) : Calls Try.prog 8 #[.agg #[.int .u8 k, .int .u64 s, .bool r, .int .i64 j, .int .u64 l]] w fun e w' => e = .returned (.bool true) ∧ Below w.heap.size w w' := by
  have hb0 := (Below.refl w.heap.size w).alloc (Nat.le_refl _) (.cells #[.int .u8 k, .int .u64 s, .bool r, .int .i64 j, .int .u64 l] 46)
  have HB0 := Hd.mk hb0
  clear hb0
  go_enter Try.func8, Try.ntmps8
  go_wp2_with fail
  refine (awake_any _).mono ?_
  rintro e w1 ⟨rfl, hb⟩
  have hlt : w.heap.size < (w.alloc (.cells #[.int .u8 k, .int .u64 s, .bool r, .int .i64 j, .int .u64 l] 46)).heap.size := by simp
  have hsz : w.heap.size < w1.heap.size := Nat.lt_of_lt_of_le hlt hb.size
  have hrow := (row_new w [.int .u8 k, .int .u64 s, .bool r, .int .i64 j, .int .u64 l] 46 (0, 0)).below hb
  have c1 : w1.cell? ⟨w.heap.size, 1, none⟩ = some (.int .u64 s) := by
    obtain ⟨b, o, e, hc⟩ := hrow 1 (by simp)
    simp only [Option.some.injEq, Addr.mk.injEq, and_true] at e
    obtain ⟨rfl, rfl⟩ := e
    simpa using hc
  have c3 : w1.cell? ⟨w.heap.size, 3, none⟩ = some (.int .i64 j) := by
    obtain ⟨b, o, e, hc⟩ := hrow 3 (by simp)
    simp only [Option.some.injEq, Addr.mk.injEq, and_true] at e
    obtain ⟨rfl, rfl⟩ := e
    simpa using hc
  have c4 : w1.cell? ⟨w.heap.size, 4, none⟩ = some (.int .u64 l) := by
    obtain ⟨b, o, e, hc⟩ := hrow 4 (by simp)
    simp only [Option.some.injEq, Addr.mk.injEq, and_true] at e
    obtain ⟨rfl, rfl⟩ := e
    simpa using hc
  have HB1 : Hd (Below w.heap.size w w1) := ⟨HB0.out.trans (hb.mono (Nat.le_of_lt hlt))⟩
  clear hb hrow hlt
  go_wp2_with fail
  refine (next_nil s w1).mono ?_
  rintro e w2 ⟨rfl, hb2⟩
  have d1 := (hb2.cell (p := ⟨w.heap.size, 1, none⟩) hsz).trans c1
  have d3 := (hb2.cell (p := ⟨w.heap.size, 3, none⟩) hsz).trans c3
  have d4 := (hb2.cell (p := ⟨w.heap.size, 4, none⟩) hsz).trans c4
  have HB2 : Hd (Below w.heap.size w w2) := ⟨HB1.out.trans (hb2.mono (Nat.le_of_lt hsz))⟩
  clear c1 c3 c4 hb2 hsz
  go_wp2_with (first
    | (go_at_call 13; refine (expire_nil _ _).mono ?_; rintro e w' ⟨rfl, rfl⟩)
    | (go_at_call 15; refine (jobs_nil _).mono ?_; rintro e w' ⟨rfl, rfl⟩)
    | (go_at_call 14; refine (answer_nil _ _ _).mono ?_; rintro e w' ⟨rfl, rfl⟩)
    | (go_at_call 17; refine (refuse_nil _ _ _ _).mono ?_; rintro e w' ⟨rfl, rfl⟩)
    | (go_at_call 16; refine (done_nil _ _).mono ?_; rintro e w' ⟨rfl, rfl⟩))
  go_ret
  exact ⟨rfl, HB2.out⟩
end Go.Proofs.Ytjampaggidelgaa
