/- The document's table: a lease is over. -/
import Derived.Test.YtjampaggidelgaaRefAnswer
namespace Go.Proofs.Ytjampaggidelgaa
open Go.RowKit
set_option linter.unusedSimpArgs false
set_option linter.unusedVariables false
set_option maxHeartbeats 1600000 in
theorem ref_over (p B : Nat) (js : List Job) (t : Times) (last : Nat) (i now : Nat) (w : World) (h : RefAt w p B js t last) (hi : i < js.length) (hn : now ≤ 1099511627776) :
    Calls Try.prog 31 #[.pointer (some ⟨p, 0, none⟩), .int .i64 i, .int .u64 now] w fun e w' => (∃ v, e = .returned v) ∧ RefAt w' p B (js.set i (js[i].over t now)) t last ∧ Kept w w' p B := by
  have c0 : w.cell? ⟨p, 0, none⟩ = some (.slice (some ⟨B, 0, none⟩) js.length js.length) := h.cellHead 0 (by omega)
  have c1 : w.cell? ⟨p, 2, none⟩ = some (.int .u64 t.wait) := h.cellHead 2 (by omega)
  have c2 : w.cell? ⟨p, 3, none⟩ = some (.int .u64 t.most) := h.cellHead 3 (by omega)
  have c3 : w.cell? ⟨B, i * 5 + 3, none⟩ = some (.int .i64 js[i].tries) := h.cellBody i hi 3 (by omega)
  obtain ⟨d1, d2, d4⟩ : w.cell? ⟨B, i * 5 + 1, none⟩ = some (.int .u64 js[i].lease) ∧ w.cell? ⟨B, i * 5 + 2, none⟩ = some (.int .u64 js[i].deadline) ∧ w.cell? ⟨B, i * 5 + 4, none⟩ = some (.int .u64 js[i].ready) :=
    ⟨h.cellBody i hi 1 (by omega), h.cellBody i hi 2 (by omega), h.cellBody i hi 4 (by omega)⟩
  have f1 := h.freeBody (i * 5 + 1)
  have f2 := h.freeBody (i * 5 + 2)
  have f4 := h.freeBody (i * 5 + 4)
  have hne := h.ne
  have H := Hd.mk h
  have HF := Hd.mk (h.fits _ (List.getElem_mem hi))
  obtain ⟨tr, htr⟩ : ∃ x, x = js[i].tries := ⟨_, rfl⟩
  obtain ⟨tw, htw⟩ : ∃ x, x = t.wait := ⟨_, rfl⟩
  obtain ⟨tm, htm⟩ : ∃ x, x = t.most := ⟨_, rfl⟩
  have ht64 : tr ≤ 64 := by rw [htr]; exact HF.out.tries
  have hW : Hd (waits t js[i].tries = dbl tw tm (tr - 1) ∧ tw ≤ 1099511627776 ∧ tm ≤ 1099511627776) := ⟨by rw [htw, htm, htr]; exact ⟨rfl, h.tw, h.tm⟩⟩
  rw [← htw] at c1
  rw [← htm] at c2
  rw [← htr] at c3
  have HTR := Hd.mk htr
  clear h htw htm htr
  go_enter Try.func31, Try.ntmps31
  go_wp2_with fail
  go_loop [6, 7] (fun v i => ∃ k : Nat, k ≤ tr - 1 ∧ i = .int .i64 (k + 1 : Nat) ∧ v = .int .u64 (dbl tw tm k)) (fun _ i => tr - (intOf i).toNat)
  case atStart => exact ⟨0, Nat.zero_le _, rfl, rfl⟩
  case round =>
    obtain ⟨k, hk, rfl, rfl⟩ := hrel
    by_cases hlt : k + 1 < tr
    · have hlt' : (k : Int) + 1 < (tr : Int) := by omega
      obtain ⟨d, hd⟩ : ∃ d, d = dbl tw tm k := ⟨_, rfl⟩
      have hdb := dbl_bound tw tm hW.out.2.1 hW.out.2.2 k
      rw [← hd] at hdb ⊢
      have HD : Hd (dbl tw tm (k + 1) = min (2 * d) tm) := ⟨by rw [hd]; rfl⟩
      clear hd
      by_cases hg : tm < 2 * d
      · have hg' : (tm : Int) < 2 * (d : Int) := by omega
        go_wp2
        go_round
        case rel => exact ⟨k + 1, by omega, by go_num, by rw [HD.out, show min (2 * d) tm = tm from by omega]⟩
        case measure => simp [intOf]; omega
      · have hg' : ¬ (tm : Int) < 2 * (d : Int) := by omega
        go_wp2
        go_round
        case rel => exact ⟨k + 1, by omega, by go_num, by rw [HD.out, show min (2 * d) tm = 2 * d from by omega]; go_num⟩
        case measure => simp [intOf]; omega
    · have hlt' : ¬ (k : Int) + 1 < (tr : Int) := by omega
      obtain ⟨m, hm⟩ : ∃ m, m = dbl tw tm k := ⟨_, rfl⟩
      have hmb := dbl_bound tw tm hW.out.2.1 hW.out.2.2 k
      rw [← hm] at hmb ⊢
      have hmw : m = waits t js[i].tries := by rw [hW.out.1, hm, show k = tr - 1 from by omega]
      have HM := Hd.mk hmw
      clear hm hmw
      go_wp2
      have hf := HF.out
      have h1 := H.out.setJob i hi 1 (by omega) { js[i] with lease := 0 } (.int .u64 0) rfl ⟨pos64, hf.deadline, hf.tries, hf.ready⟩
      have h2 := h1.setJob i (by simpa using hi) 2 (by omega) { js[i] with lease := 0, deadline := 0 } (.int .u64 0) (by simp [Job.cells]) ⟨pos64, pos64, hf.tries, hf.ready⟩
      have h3 := h2.setJob i (by simpa using hi) 4 (by omega) (js[i].over t now) (.int .u64 ((now : Int) + (m : Int))) (by simp [Job.cells, Job.over, HM.out]) ⟨pos64, pos64, hf.tries, by simp only [Job.over]; rw [← HM.out]; omega⟩
      simp only [List.set_set] at h3
      refine bodyPost_end (v := .tuple #[]) (by kernel_rfl) rfl ?_
      exact ⟨⟨_, rfl⟩, h3, ((Kept.setCell _ p B _ _ (.inr rfl)).trans (Kept.setCell _ p B _ _ (.inr rfl))).trans (Kept.setCell _ p B _ _ (.inr rfl))⟩
end Go.Proofs.Ytjampaggidelgaa
