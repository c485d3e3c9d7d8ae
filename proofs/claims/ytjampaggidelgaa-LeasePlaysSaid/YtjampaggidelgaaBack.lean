/- A job's lease is over. -/
import Derived.Test.YtjampaggidelgaaWait
namespace Go.Proofs.Ytjampaggidelgaa
open Go.RowKit
set_option linter.unusedSimpArgs false
set_option linter.unusedVariables false

def Job.over (j : Job) (t : Times) (now : Nat) : Job := { j with lease := 0, deadline := 0, ready := now + waits t j.tries }
theorem waits_le (t : Times) (hw : t.wait ≤ 1099511627776) (hm : t.most ≤ 1099511627776) (n : Nat) : waits t n ≤ 1099511627776 := dbl_bound _ _ hw hm _
theorem pos64 : 0 < 18446744073709551616 := by omega
set_option maxHeartbeats 800000 in
theorem back_any (p B : Nat) (js : List Job) (t : Times) (last : Nat) (i now : Nat) (w : World) (h : TabAt w p B js t last) (hi : i < js.length) (hn : now ≤ 1099511627776) :
    Calls Try.prog 29 #[.pointer (some ⟨p, 0, none⟩), .int .i64 i, .int .u64 now] w fun e w' => (∃ v, e = .returned v) ∧ TabAt w' p B (js.set i (js[i].over t now)) t last ∧ Kept w w' p B := by
  have c0 : w.cell? ⟨p, 0, none⟩ = some (.slice (some ⟨B, 0, none⟩) js.length js.length) := h.cellHead 0 (by omega)
  have c3 : w.cell? ⟨B, i * 5 + 3, none⟩ = some (.int .i64 js[i].tries) := h.cellBody i hi 3 (by omega)
  have H := Hd.mk h
  have HF := Hd.mk (h.fits _ (List.getElem_mem hi))
  clear h
  go_enter Try.func29, Try.ntmps29
  go_wp2_with fail
  have hy := wait_any p B js t last js[i].tries w H.out HF.out.tries
  refine hy.mono ?_
  clear hy
  rintro e w' ⟨rfl, rfl⟩
  obtain ⟨m, hm⟩ : ∃ m, m = waits t js[i].tries := ⟨_, rfl⟩
  have hmb := waits_le t H.out.tw H.out.tm js[i].tries
  rw [← hm] at hmb ⊢
  have hwr : IntKind.u64.wrap ((now : Int) + (m : Int)) = ((now + m : Nat) : Int) := by rw [show ((now : Int) + (m : Int)) = ((now + m : Nat) : Int) from by omega]; exact wrapU _ (by omega)
  have HM := Hd.mk hm
  clear hm
  obtain ⟨c1, c2, c4⟩ : w'.cell? ⟨B, i * 5 + 1, none⟩ = some (.int .u64 js[i].lease) ∧ w'.cell? ⟨B, i * 5 + 2, none⟩ = some (.int .u64 js[i].deadline) ∧ w'.cell? ⟨B, i * 5 + 4, none⟩ = some (.int .u64 js[i].ready) :=
    ⟨H.out.cellBody i hi 1 (by omega), H.out.cellBody i hi 2 (by omega), H.out.cellBody i hi 4 (by omega)⟩
  have f1 := H.out.freeBody (i * 5 + 1)
  have f2 := H.out.freeBody (i * 5 + 2)
  have f4 := H.out.freeBody (i * 5 + 4)
  go_wp2
  have hf := HF.out
  have h1 := H.out.setJob i hi 1 (by omega) { js[i] with lease := 0 } (.int .u64 0) rfl ⟨pos64, hf.deadline, hf.tries, hf.ready⟩
  have h2 := h1.setJob i (by simpa using hi) 2 (by omega) { js[i] with lease := 0, deadline := 0 } (.int .u64 0) (by simp [Job.cells]) ⟨pos64, pos64, hf.tries, hf.ready⟩
  have h3 := h2.setJob i (by simpa using hi) 4 (by omega) (js[i].over t now) (.int .u64 ((now : Int) + (m : Int))) (by simp [Job.cells, Job.over, HM.out]) ⟨pos64, pos64, hf.tries, by simp only [Job.over]; rw [← HM.out]; omega⟩
  simp only [List.set_set] at h3
  refine bodyPost_end (v := .tuple #[]) (by kernel_rfl) rfl ?_
  exact ⟨⟨_, rfl⟩, h3, ((Kept.setCell _ p B _ _ (.inr rfl)).trans (Kept.setCell _ p B _ _ (.inr rfl))).trans (Kept.setCell _ p B _ _ (.inr rfl))⟩
end Go.Proofs.Ytjampaggidelgaa
