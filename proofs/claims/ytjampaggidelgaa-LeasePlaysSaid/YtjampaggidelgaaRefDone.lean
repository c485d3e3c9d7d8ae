/- The document's table: refuse a lease; a job is done. -/
import Derived.Test.YtjampaggidelgaaRefOver
namespace Go.Proofs.Ytjampaggidelgaa
open Go.RowKit
set_option linter.unusedSimpArgs false
set_option linter.unusedVariables false
set_option maxHeartbeats 800000 in
theorem ref_done_in (p B : Nat) (js : List Job) (t : Times) (last : Nat) (i : Nat) (w : World) (h : RefAt w p B js t last) (hi : i < js.length) :
    Calls Try.prog 24 #[.pointer (some ⟨p, 0, none⟩), .int .i64 i] w fun e w' => Kept w w' p B ∧
      if js[i].done then e = .returned (.int .i64 61) ∧ RefAt w' p B js t last else e = .returned (.int .i64 0) ∧ RefAt w' p B (js.set i js[i].ended) t last := by
  have H := Hd.mk h
  clear h
  by_cases hd : js[i].done = true
  · simp only [if_pos hd]
    have HD : Hd (answerIn js[i] 0 = 61) := ⟨by simp [answerIn, hd]⟩
    clear hd
    go_enter Try.func24, Try.ntmps24
    go_wp2_with fail
    have hy := ref_answer_in p B js t last i 0 w H.out hi (by omega)
    rw [HD.out] at hy
    refine hy.mono ?_
    clear hy
    rintro e w' ⟨rfl, rfl⟩
    go_wp2
    go_ret
    exact ⟨Kept.refl _ _ _, rfl, H.out⟩
  · simp only [if_neg hd]
    have HD : Hd (answerIn js[i] 0 = 60) := ⟨by simp [answerIn, hd]⟩
    have HE := Hd.mk hd
    clear hd
    go_enter Try.func24, Try.ntmps24
    go_wp2_with fail
    have hy := ref_answer_in p B js t last i 0 w H.out hi (by omega)
    rw [HD.out] at hy
    refine hy.mono ?_
    clear hy
    rintro e w' ⟨rfl, rfl⟩
    have c0 : w'.cell? ⟨p, 0, none⟩ = some (.slice (some ⟨B, 0, none⟩) js.length js.length) := H.out.cellHead 0 (by omega)
    obtain ⟨d0, d1, d2, d3, d4⟩ : w'.cell? ⟨B, i * 5, none⟩ = some (.bool js[i].done) ∧ w'.cell? ⟨B, i * 5 + 1, none⟩ = some (.int .u64 js[i].lease) ∧ w'.cell? ⟨B, i * 5 + 2, none⟩ = some (.int .u64 js[i].deadline) ∧
        w'.cell? ⟨B, i * 5 + 3, none⟩ = some (.int .i64 js[i].tries) ∧ w'.cell? ⟨B, i * 5 + 4, none⟩ = some (.int .u64 js[i].ready) :=
      ⟨H.out.cellBody i hi 0 (by omega), H.out.cellBody i hi 1 (by omega), H.out.cellBody i hi 2 (by omega), H.out.cellBody i hi 3 (by omega), H.out.cellBody i hi 4 (by omega)⟩
    have f0 := H.out.freeBody (i * 5)
    have f1 := H.out.freeBody (i * 5 + 1)
    have f2 := H.out.freeBody (i * 5 + 2)
    have f3 := H.out.freeBody (i * 5 + 3)
    have f4 := H.out.freeBody (i * 5 + 4)
    go_wp2
    go_still_tail 15, (by kernel_rfl)
    go_wp2
    go_ret
    refine ⟨?_, rfl, (H.out.setAll i hi js[i].ended ⟨pos64, pos64, (H.out.fits _ (List.getElem_mem hi)).tries, pos64⟩).drewN 1⟩
    exact ((((((Kept.setCell _ p B _ _ (.inr rfl)).trans (Kept.setCell _ p B _ _ (.inr rfl))).trans (Kept.setCell _ p B _ _ (.inr rfl))).trans (Kept.setCell _ p B _ _ (.inr rfl))).trans (Kept.setCell _ p B _ _ (.inr rfl))).trans (Kept.drew _ p B))
theorem ref_done_out (p B : Nat) (js : List Job) (t : Times) (last : Nat) (job : Int) (w : World) (h : RefAt w p B js t last) (hj : job < 0 ∨ (js.length : Int) ≤ job) :
    Calls Try.prog 24 #[.pointer (some ⟨p, 0, none⟩), .int .i64 job] w fun e w' => e = .returned (.int .i64 2) ∧ w' = w := by
  have H := Hd.mk h
  have HJ := Hd.mk hj
  clear h hj
  go_enter Try.func24, Try.ntmps24
  go_wp2_with fail
  refine (ref_answer_out p B js t last job 0 w H.out HJ.out).mono ?_
  rintro e w' ⟨rfl, rfl⟩
  go_wp2
  go_ret
  exact ⟨rfl, rfl⟩
theorem ref_refuse_out (p B : Nat) (js : List Job) (t : Times) (last : Nat) (job lease now : Int) (w : World) (h : RefAt w p B js t last) (hj : job < 0 ∨ (js.length : Int) ≤ job) :
    Calls Try.prog 23 #[.pointer (some ⟨p, 0, none⟩), .int .i64 job, .int .u64 lease, .int .u64 now] w fun e w' => e = .returned (.int .i64 2) ∧ w' = w := by
  have H := Hd.mk h
  have HJ := Hd.mk hj
  clear h hj
  go_enter Try.func23, Try.ntmps23
  go_wp2_with fail
  refine (ref_answer_out p B js t last job lease w H.out HJ.out).mono ?_
  rintro e w' ⟨rfl, rfl⟩
  go_wp2
  go_ret
  exact ⟨rfl, rfl⟩
set_option maxHeartbeats 800000 in
theorem ref_refuse_in (p B : Nat) (js : List Job) (t : Times) (last : Nat) (i lease now : Nat) (w : World) (h : RefAt w p B js t last) (hi : i < js.length) (hl : lease < 18446744073709551616) :
    Calls Try.prog 23 #[.pointer (some ⟨p, 0, none⟩), .int .i64 i, .int .u64 lease, .int .u64 now] w fun e w' => Kept w w' p B ∧ e = .returned (.int .i64 (refused js t i js[i] lease now).1) ∧ RefAt w' p B (refused js t i js[i] lease now).2 t last := by
  have H := Hd.mk h
  clear h
  obtain ⟨c, hc⟩ : ∃ c, c = answerIn js[i] lease := ⟨_, rfl⟩
  by_cases h0 : c = 0
  · by_cases hn : 1099511627776 < now
    · have HR : Hd (refused js t i js[i] lease now = (62, js)) := ⟨by unfold refused; rw [← hc, if_pos h0, if_pos hn]⟩
      rw [HR.out]
      have HC : Hd (answerIn js[i] lease = 0) := ⟨hc.symm.trans h0⟩
      clear hc h0
      have hn' : (1099511627776 : Int) < (now : Int) := by omega
      go_enter Try.func23, Try.ntmps23
      go_wp2_with fail
      have hy := ref_answer_in p B js t last i lease w H.out hi hl
      rw [HC.out] at hy
      refine hy.mono ?_
      clear hy
      rintro e w' ⟨rfl, rfl⟩
      go_wp2
      go_ret
      exact ⟨Kept.refl _ _ _, rfl, H.out⟩
    · have HR : Hd (refused js t i js[i] lease now = (0, js.set i (js[i].over t now))) := ⟨by unfold refused; rw [← hc, if_pos h0, if_neg hn]⟩
      rw [HR.out]
      have HC : Hd (answerIn js[i] lease = 0) := ⟨hc.symm.trans h0⟩
      clear hc h0
      have hn' : ¬ (1099511627776 : Int) < (now : Int) := by omega
      go_enter Try.func23, Try.ntmps23
      go_wp2_with fail
      have hy := ref_answer_in p B js t last i lease w H.out hi hl
      rw [HC.out] at hy
      refine hy.mono ?_
      clear hy
      rintro e w' ⟨rfl, rfl⟩
      go_wp2_with fail
      have hy := ref_over p B js t last i now w' H.out hi (by omega)
      refine hy.mono ?_
      clear hy
      rintro e w'' ⟨⟨v, rfl⟩, ht, hk⟩
      have HT := Hd.mk (And.intro ht hk)
      clear ht hk
      go_wp2
      go_ret
      exact ⟨HT.out.2, rfl, HT.out.1⟩
  · have HR : Hd (refused js t i js[i] lease now = (c, js)) := ⟨by unfold refused; rw [← hc, if_neg h0]⟩
    rw [HR.out]
    have HC : Hd (answerIn js[i] lease = c) := ⟨hc.symm⟩
    have h0' : (c == 0) = false := beq_eq_false_iff_ne.2 h0
    clear hc h0
    go_enter Try.func23, Try.ntmps23
    go_wp2_with fail
    have hy := ref_answer_in p B js t last i lease w H.out hi hl
    rw [HC.out] at hy
    refine hy.mono ?_
    clear hy
    rintro e w' ⟨rfl, rfl⟩
    go_wp2
    go_ret
    exact ⟨Kept.refl _ _ _, rfl, H.out⟩
end Go.Proofs.Ytjampaggidelgaa
