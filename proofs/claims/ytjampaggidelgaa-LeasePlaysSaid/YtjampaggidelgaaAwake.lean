/- The fixed fact of chapter 22's example; and nil tables. -/
import Derived.Test.YtjampaggidelgaaJobs
namespace Go.Proofs.Ytjampaggidelgaa
open Go.RowKit
set_option linter.unusedSimpArgs false
set_option linter.unusedVariables false

theorem first_some0 (j : Job) (now : Nat) (h : j.free now = true) : firstFree [j] now = some 0 := by simp [firstFree, List.findIdx?_cons, h]
/-- Six facts in a row: what the table is behind each call. -/
abbrev tA : Times := ⟨5, 2, 8⟩
abbrev jA1 : Job := ⟨false, 1, 15, 1, 0⟩
abbrev jA2 : Job := ⟨false, 0, 0, 1, 17⟩
abbrev jA3 : Job := ⟨false, 2, 22, 2, 17⟩
abbrev jA4 : Job := ⟨false, 0, 0, 2, 26⟩
theorem awake_new (w : World) : Calls Try.prog 11 #[.int .i64 1, .agg #[.int .u64 5, .int .u64 2, .int .u64 8], .int .u64 0] w fun e w' => ∃ p B, e = .returned (.tuple #[.pointer (some ⟨p, 0, none⟩), .int .i64 0]) ∧
      TabAt w' p B [Job.zero] tA 0 ∧ Below w.heap.size w w' ∧ w.heap.size ≤ p ∧ w.heap.size ≤ B :=
  new_ok 1 tA 0 w (by omega) (by omega) rfl rfl rfl (by simp) (by omega)
theorem awake_next1 (p B : Nat) (w : World) (h : TabAt w p B [Job.zero] tA 0) : Calls Try.prog 12 #[.pointer (some ⟨p, 0, none⟩), .int .u64 10] w fun e w' => e = .returned (.tuple #[.int .i64 0, .int .u64 1, .bool true]) ∧ Kept w w' p B ∧ TabAt w' p B [jA1] tA 1 :=
  next_some p B _ tA 0 10 0 w h (by omega) (by omega) rfl (by simp)
theorem awake_next2 (p B : Nat) (w : World) (h : TabAt w p B [jA2] tA 1) : Calls Try.prog 12 #[.pointer (some ⟨p, 0, none⟩), .int .u64 17] w fun e w' => e = .returned (.tuple #[.int .i64 0, .int .u64 2, .bool true]) ∧ Kept w w' p B ∧ TabAt w' p B [jA3] tA 2 :=
  next_some p B _ tA 1 17 0 w h (by omega) (by omega) rfl (by simp)
theorem awake_exp1 (p B : Nat) (w : World) (h : TabAt w p B [jA1] tA 1) : Calls Try.prog 13 #[.pointer (some ⟨p, 0, none⟩), .int .u64 15] w fun e w' => Kept w w' p B ∧ TabAt w' p B [jA2] tA 1 ∧ ∃ g c, e = .returned (.slice (some ⟨g, 0, none⟩) 1 c) := by
  refine (expire_in p B [jA1] tA 1 15 w h (by omega)).mono ?_
  rintro e w' ⟨hk, ht, v, rfl, hown⟩
  refine ⟨hk, ht, ?_⟩
  obtain ⟨g, c, rfl, _⟩ := own_form hown (by decide)
  exact ⟨g, c, rfl⟩
theorem awake_exp2 (p B : Nat) (w : World) (h : TabAt w p B [jA3] tA 2) : Calls Try.prog 13 #[.pointer (some ⟨p, 0, none⟩), .int .u64 22] w fun e w' => Kept w w' p B ∧ TabAt w' p B [jA4] tA 2 ∧ ∃ v, e = .returned v := by
  refine (expire_in p B [jA3] tA 2 22 w h (by omega)).mono ?_
  rintro e w' ⟨hk, ht, v, rfl, hown⟩
  exact ⟨hk, ht, v, rfl⟩
/-- One job read: its time. -/
theorem jobs_one (p B : Nat) (j : Job) (t : Times) (last : Nat) (w : World) (h : TabAt w p B [j] t last) :
    Calls Try.prog 15 #[.pointer (some ⟨p, 0, none⟩)] w fun e w' => Below w.heap.size w w' ∧ ∃ g c, e = .returned (.slice (some ⟨g, 0, none⟩) 1 c) ∧ w.heap.size ≤ g ∧ w'.cell? ⟨g, 1, none⟩ = some (.int .u64 j.lease) ∧ w'.cell? ⟨g, 4, none⟩ = some (.int .u64 j.ready) := by
  refine (jobs_any p B [j] t last w h).mono ?_
  rintro e w' ⟨hb, v, rfl, hj⟩
  obtain ⟨g, c, rfl, hg, hc, hcell⟩ := hj.form (by simp)
  exact ⟨hb, g, c, rfl, hg, hcell 0 (by simp) 1 (by omega), hcell 0 (by simp) 4 (by omega)⟩
theorem cell_kept {w w' : World} {p B g off : Nat} {v : Value} (k : Kept w w' p B) (h : w.cell? ⟨g, off, none⟩ = some v) (h1 : g ≠ p) (h2 : g ≠ B) : w'.cell? ⟨g, off, none⟩ = some v := by
  have := World.block_lt_of_cell? w ⟨g, off, none⟩ h
  unfold World.cell? at h ⊢
  rw [k.block g this h1 h2]
  exact h
set_option maxHeartbeats 1600000 in
theorem awake_any (w : World) : Calls Try.prog 9 #[] w fun e w' => e = .returned (.bool true) ∧ Below w.heap.size w w' := by
  go_enter Try.func9, Try.ntmps9
  go_wp2_with fail
  refine (awake_new w).mono ?_
  rintro e w1 ⟨p, B, rfl, ht, hb, hp, hB⟩
  have HB := Hd.mk (And.intro hb (And.intro hp hB))
  clear hb hp hB
  go_wp2_with fail
  refine (awake_next1 p B w1 ht).mono ?_
  clear ht
  rintro e w2 ⟨rfl, hk2, ht⟩
  have HK2 := Hd.mk hk2
  clear hk2
  go_wp2_with fail
  refine (awake_exp1 p B w2 ht).mono ?_
  clear ht
  rintro e w3 ⟨hk3, ht, g3, c3, rfl⟩
  have HK3 := Hd.mk (HK2.out.trans hk3)
  clear hk3
  go_wp2_with fail
  refine (jobs_one p B _ _ _ w3 ht).mono ?_
  have HT := Hd.mk ht
  clear ht
  rintro e w4 ⟨hb4, g4, c4, rfl, hg4, -, hc4⟩
  have HK4 := Hd.mk (HK3.out.trans (Kept.of_below hb4))
  have ht := HT.out.old hb4
  have HG4 := Hd.mk (And.intro hg4 hc4)
  have hlt3 := HT.out.lt
  have HN4 := Hd.mk (And.intro (show g4 ≠ p by omega) (show g4 ≠ B by omega))
  clear hb4 hg4 hc4 hlt3 HT
  go_wp2_with fail
  refine (awake_next2 p B w4 ht).mono ?_
  clear ht
  rintro e w5 ⟨rfl, hk5, ht⟩
  have HK5 := Hd.mk (HK4.out.trans hk5)
  have HC5 := Hd.mk (cell_kept hk5 HG4.out.2 HN4.out.1 HN4.out.2)
  clear hk5
  go_wp2_with fail
  refine (awake_exp2 p B w5 ht).mono ?_
  clear ht
  rintro e w6 ⟨hk6, ht, v6, rfl⟩
  have HK6 := Hd.mk (HK5.out.trans hk6)
  have HC6 := Hd.mk (cell_kept hk6 HC5.out HN4.out.1 HN4.out.2)
  clear hk6
  go_wp2_with fail
  refine (jobs_one p B _ _ _ w6 ht).mono ?_
  clear ht
  rintro e w7 ⟨hb7, g7, c7, rfl, hg7, -, hc7⟩
  have HK7 := Hd.mk (HK6.out.trans (Kept.of_below hb7))
  have hcell4 : w7.cell? ⟨g4, 4, none⟩ = some (.int .u64 17) := (hb7.cell (p := ⟨g4, 4, none⟩) (World.block_lt_of_cell? w6 ⟨g4, 4, none⟩ HC6.out)).trans HC6.out
  have hcell7 : w7.cell? ⟨g7, 4, none⟩ = some (.int .u64 26) := hc7
  clear hb7 hg7 hc7
  go_wp2
  go_ret
  exact ⟨rfl, HK7.out.below HB.out.1 HB.out.2.1 HB.out.2.2⟩
end Go.Proofs.Ytjampaggidelgaa
