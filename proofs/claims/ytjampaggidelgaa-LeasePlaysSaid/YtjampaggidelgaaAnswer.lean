/- Is an answer wanted; refuse; done. -/
import Derived.Test.YtjampaggidelgaaBack
namespace Go.Proofs.Ytjampaggidelgaa
open Go.RowKit
set_option linter.unusedSimpArgs false
set_option linter.unusedVariables false

/-- The code of an answer to a job that there is. -/
def answerIn (j : Job) (lease : Nat) : Int := if j.done then 61 else if lease = 0 ∨ j.lease ≠ lease then 60 else 0

theorem answer_nil (job : Int) (lease : Int) (w : World) : Calls Try.prog 14 #[.pointer none, .int .i64 job, .int .u64 lease] w fun e w' => e = .returned (.int .i64 1) ∧ w' = w := by
  go_enter Try.func14, Try.ntmps14
  go_wp2
  go_ret
  exact ⟨rfl, rfl⟩
theorem answer_out (p B : Nat) (js : List Job) (t : Times) (last : Nat) (job : Int) (lease : Int) (w : World) (h : TabAt w p B js t last) (hj : job < 0 ∨ (js.length : Int) ≤ job) :
    Calls Try.prog 14 #[.pointer (some ⟨p, 0, none⟩), .int .i64 job, .int .u64 lease] w fun e w' => e = .returned (.int .i64 2) ∧ w' = w := by
  have c0 : w.cell? ⟨p, 0, none⟩ = some (.slice (some ⟨B, 0, none⟩) js.length js.length) := h.cellHead 0 (by omega)
  clear h
  by_cases h1 : job < 0
  · clear hj
    go_enter Try.func14, Try.ntmps14
    go_wp2
    go_ret
    exact ⟨rfl, rfl⟩
  · have h2 : (js.length : Int) ≤ job := by omega
    clear hj
    go_enter Try.func14, Try.ntmps14
    go_wp2
    go_ret
    exact ⟨rfl, rfl⟩
set_option maxHeartbeats 800000 in
theorem answer_in (p B : Nat) (js : List Job) (t : Times) (last : Nat) (i lease : Nat) (w : World) (h : TabAt w p B js t last) (hi : i < js.length) (hl : lease < 18446744073709551616) :
    Calls Try.prog 14 #[.pointer (some ⟨p, 0, none⟩), .int .i64 i, .int .u64 lease] w fun e w' => e = .returned (.int .i64 (answerIn js[i] lease)) ∧ w' = w := by
  have c0 : w.cell? ⟨p, 0, none⟩ = some (.slice (some ⟨B, 0, none⟩) js.length js.length) := h.cellHead 0 (by omega)
  have d0 : w.cell? ⟨B, i * 5, none⟩ = some (.bool js[i].done) := h.cellBody i hi 0 (by omega)
  have d1 : w.cell? ⟨B, i * 5 + 1, none⟩ = some (.int .u64 js[i].lease) := h.cellBody i hi 1 (by omega)
  obtain ⟨j, hj⟩ : ∃ j, j = js[i] := ⟨_, rfl⟩
  rw [← hj] at d0 d1 ⊢
  clear h hj
  obtain ⟨dn, le, dl, tr, rd⟩ := j
  simp only at d0 d1
  cases dn with
  | true =>
    go_enter Try.func14, Try.ntmps14
    go_wp2
    go_ret
    exact ⟨rfl, rfl⟩
  | false =>
    by_cases h0 : lease = 0
    · subst h0
      go_enter Try.func14, Try.ntmps14
      go_wp2
      go_ret
      exact ⟨rfl, rfl⟩
    · have h0' : ((lease : Int) == 0) = false := beq_eq_false_iff_ne.2 (by omega)
      by_cases h1 : le = lease
      · subst h1
        have e : answerIn ⟨false, le, dl, tr, rd⟩ le = 0 := by simp [answerIn, h0]
        rw [e]
        clear h0 e
        go_enter Try.func14, Try.ntmps14
        go_wp2
        go_ret
        exact ⟨rfl, rfl⟩
      · have e : answerIn ⟨false, le, dl, tr, rd⟩ lease = 60 := by simp [answerIn, h0, h1]
        have h1' : ((le : Int) == (lease : Int)) = false := beq_eq_false_iff_ne.2 (by omega)
        rw [e]
        clear h0 h1 e
        go_enter Try.func14, Try.ntmps14
        go_wp2
        go_ret
        exact ⟨rfl, rfl⟩
end Go.Proofs.Ytjampaggidelgaa
