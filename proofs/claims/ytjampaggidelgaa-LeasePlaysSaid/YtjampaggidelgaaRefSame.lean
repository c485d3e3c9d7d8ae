/- Two lists that say the same. -/
import Derived.Test.YtjampaggidelgaaRefNext
import Derived.Laws.StructEq
namespace Go.Proofs.Ytjampaggidelgaa
open Go.RowKit
set_option linter.unusedSimpArgs false
set_option linter.unusedVariables false
theorem same_ints (A B : Option Addr) (ca cb : Nat) (l : List Nat) (w : World) (ha : Row w A (idxV l)) (hb : Row w B (idxV l)) (hl : l.length ≤ 1000000) :
    Calls Try.prog 20 #[.slice A l.length ca, .slice B l.length cb] w fun e w' => e = .returned (.bool true) ∧ ∃ d, w' = w.drewN d := by
  have HA := Hd.mk ha
  have HB := Hd.mk hb
  clear ha hb
  go_enter Try.func20, Try.ntmps20
  go_wp2
  go_loopw [5] (fun i wz => ∃ k : Nat, k ≤ l.length ∧ i = .int .i64 k ∧ ∃ d, wz = w.drewN d) (fun i _ => l.length - (intOf i).toNat)
  case atStart => exact ⟨0, Nat.zero_le _, rfl, 0, rfl⟩
  case round =>
    obtain ⟨k, hk, rfl, d, rfl⟩ := hrel
    by_cases hlt : k < l.length
    · obtain ⟨b1, o1, rfl, hc1⟩ := HA.out k (by simpa [idxV] using hlt)
      obtain ⟨b2, o2, rfl, hc2⟩ := HB.out k (by simpa [idxV] using hlt)
      simp only [idxV, List.getElem_map] at hc1 hc2
      obtain ⟨q, hq⟩ : ∃ q, q = l[k] := ⟨_, rfl⟩
      rw [← hq] at hc1 hc2
      clear hq
      go_wp2
      go_quiet (fail)
      go_wp2
      go_roundw
      case rel => exact ⟨k + 1, by omega, by go_num, d + nq, rfl⟩
      case measure => simp [intOf]; omega
    · obtain rfl : k = l.length := by omega
      go_wp2
      go_ret
      exact ⟨rfl, d, rfl⟩
theorem neq_self (a : Bool) (b c : Nat) (d : Nat) (e : Nat) (w : World) : (binOp .neq 40 (.agg #[.bool a, .int .u64 b, .int .u64 c, .int .i64 d, .int .u64 e]) (.agg #[.bool a, .int .u64 b, .int .u64 c, .int .i64 d, .int .u64 e])).run Try.prog w = .ok (.bool false) w := by
  have hS : Try.prog.underlying 40 = some (.struct (Try.prog.fieldsOf 40)) := by kernel_rfl
  have u3 := Try.underlying3
  have u4 := Try.underlying4
  have u22 := Try.underlying22
  rw [run_neq_struct, show (10000 : Nat) = 9999 + 1 from rfl, run_equalIn_agg w 9999 40 _ _ hS (by kernel_rfl)]
  simp only [Program.fieldsOf, Try.underlying40]
  go_simp
/-- Jobs that lie in a block. -/
def JobsIn (w : World) (g : Nat) (js : List Job) : Prop := ∀ i (hi : i < js.length) q (hq : q < 5), w.cell? ⟨g, i * 5 + q, none⟩ = js[i].cells[q]?
set_option maxHeartbeats 800000 in
theorem same_jobs (g C ca cb : Nat) (js : List Job) (w : World) (ha : JobsIn w g js) (hb : JobsIn w C js) (hl : js.length ≤ 16) (hca : js.length ≤ ca) (hcb : js.length ≤ cb) :
    Calls Try.prog 25 #[.slice (some ⟨g, 0, none⟩) js.length ca, .slice (some ⟨C, 0, none⟩) js.length cb] w fun e w' => e = .returned (.bool true) ∧ ∃ d, w' = w.drewN d := by
  have HA := Hd.mk ha
  have HB := Hd.mk hb
  clear ha hb
  have hns := neq_self
  go_enter Try.func25, Try.ntmps25
  go_wp2
  go_loopw [5] (fun i wz => ∃ k : Nat, k ≤ js.length ∧ i = .int .i64 k ∧ ∃ d, wz = w.drewN d) (fun i _ => js.length - (intOf i).toNat)
  case atStart => exact ⟨0, Nat.zero_le _, rfl, 0, rfl⟩
  case round =>
    obtain ⟨k, hk, rfl, d, rfl⟩ := hrel
    by_cases hlt : k < js.length
    · obtain ⟨jb, jl, jd, jt, jr, hj⟩ : ∃ jb jl jd jt jr, js[k] = ⟨jb, jl, jd, jt, jr⟩ := ⟨_, _, _, _, _, rfl⟩
      have hA : ∀ q (hq : q < 5), w.cell? ⟨g, k * 5 + q, none⟩ = (Job.cells ⟨jb, jl, jd, jt, jr⟩)[q]? := fun q hq => by rw [← hj]; exact HA.out k hlt q hq
      have hB : ∀ q (hq : q < 5), w.cell? ⟨C, k * 5 + q, none⟩ = (Job.cells ⟨jb, jl, jd, jt, jr⟩)[q]? := fun q hq => by rw [← hj]; exact HB.out k hlt q hq
      have a0 : w.cell? ⟨g, k * 5, none⟩ = some (.bool jb) := hA 0 (by omega)
      have a1 : w.cell? ⟨g, k * 5 + 1, none⟩ = some (.int .u64 jl) := hA 1 (by omega)
      have a2 : w.cell? ⟨g, k * 5 + 2, none⟩ = some (.int .u64 jd) := hA 2 (by omega)
      have a3 : w.cell? ⟨g, k * 5 + 3, none⟩ = some (.int .i64 jt) := hA 3 (by omega)
      have a4 : w.cell? ⟨g, k * 5 + 4, none⟩ = some (.int .u64 jr) := hA 4 (by omega)
      have b0 : w.cell? ⟨C, k * 5, none⟩ = some (.bool jb) := hB 0 (by omega)
      have b1 : w.cell? ⟨C, k * 5 + 1, none⟩ = some (.int .u64 jl) := hB 1 (by omega)
      have b2 : w.cell? ⟨C, k * 5 + 2, none⟩ = some (.int .u64 jd) := hB 2 (by omega)
      have b3 : w.cell? ⟨C, k * 5 + 3, none⟩ = some (.int .i64 jt) := hB 3 (by omega)
      have b4 : w.cell? ⟨C, k * 5 + 4, none⟩ = some (.int .u64 jr) := hB 4 (by omega)
      clear hA hB hj
      go_wp2
      go_quiet (fail)
      go_wp2
      go_roundw
      case rel => exact ⟨k + 1, by omega, by go_num, d + nq, rfl⟩
      case measure => simp [intOf]; omega
    · obtain rfl : k = js.length := by omega
      go_wp2
      go_ret
      exact ⟨rfl, d, rfl⟩
end Go.Proofs.Ytjampaggidelgaa
