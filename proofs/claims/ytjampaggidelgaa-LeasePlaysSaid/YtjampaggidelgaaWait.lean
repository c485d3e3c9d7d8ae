/- How long a job waits. -/
import Derived.Test.YtjampaggidelgaaMem
import Derived.Laws.BytesArg
namespace Go.Proofs.Ytjampaggidelgaa
open Go.RowKit
set_option linter.unusedSimpArgs false
set_option linter.unusedVariables false

/-- So many doublings. -/
def dbl (w m : Nat) : Nat → Nat
  | 0 => w
  | n + 1 => min (2 * dbl w m n) m
def waits (t : Times) (tries : Nat) : Nat := dbl t.wait t.most (tries - 1)
theorem dbl_le {w m : Nat} (h : w ≤ m) : ∀ n, dbl w m n ≤ m
  | 0 => h
  | n + 1 => Nat.min_le_right _ _
theorem dbl_bound (w m : Nat) (hw : w ≤ 1099511627776) (hm : m ≤ 1099511627776) : ∀ n, dbl w m n ≤ 1099511627776
  | 0 => hw
  | n + 1 => Nat.le_trans (Nat.min_le_right _ _) hm
/-- At the most it stays. -/
theorem dbl_most (w m : Nat) (n : Nat) (h : dbl w m n = m) (hm : 0 < m ∨ True) : ∀ k, dbl w m (n + k) = m
  | 0 => h
  | k + 1 => by
    show min (2 * dbl w m (n + k)) m = m
    rw [dbl_most w m n h hm k]
    omega
theorem minU (a b c : Nat) (h : c = min a b) (ts : Array TypeId) (t : TypeId) (w : World) :
    (Builtin.min_ ts t #[.int .u64 (a : Int), .int .u64 (b : Int)]).run Try.prog w = .ok (.int .u64 (c : Int)) w := by
  rw [run_min_int2]
  congr 2
  subst h
  split <;> omega
theorem wrapU (n : Nat) (h : n < 18446744073709551616) : IntKind.u64.wrap (n : Int) = (n : Int) := by
  simp [IntKind.wrap, IntKind.bits, IntKind.signed]
  omega
set_option maxHeartbeats 800000 in
theorem wait_any (p B : Nat) (js : List Job) (t : Times) (last : Nat) (n : Nat) (w : World) (h : TabAt w p B js t last) (hn : n ≤ 64) :
    Calls Try.prog 32 #[.pointer (some ⟨p, 0, none⟩), .int .i64 n] w fun e w' => e = .returned (.int .u64 (waits t n)) ∧ w' = w := by
  have c1 : w.cell? ⟨p, 2, none⟩ = some (.int .u64 t.wait) := h.cellHead 2 (by omega)
  have c2 : w.cell? ⟨p, 3, none⟩ = some (.int .u64 t.most) := h.cellHead 3 (by omega)
  obtain ⟨tw, htw⟩ : ∃ x, x = t.wait := ⟨_, rfl⟩
  obtain ⟨tm, htm⟩ : ∃ x, x = t.most := ⟨_, rfl⟩
  have hW : Hd (waits t n = dbl tw tm (n - 1) ∧ tw ≤ 1099511627776 ∧ tm ≤ 1099511627776) := ⟨by rw [htw, htm]; exact ⟨rfl, h.tw, h.tm⟩⟩
  rw [← htw] at c1
  rw [← htm] at c2
  clear h htw htm
  go_enter Try.func32, Try.ntmps32
  go_wp2
  go_loop [5, 13] (fun v i => ∃ k : Nat, k ≤ n - 1 ∧ i = .int .i64 k ∧ v = .int .u64 (dbl tw tm k)) (fun _ i => n - 1 - (intOf i).toNat)
  case atStart => exact ⟨0, Nat.zero_le _, rfl, rfl⟩
  case round =>
    obtain ⟨k, hk, rfl, rfl⟩ := hrel
    by_cases hlt : k < n - 1
    · have hlt' : (k : Int) < (n : Int) - 1 := by omega
      obtain ⟨d, hd⟩ : ∃ d, d = dbl tw tm k := ⟨_, rfl⟩
      have hdb := dbl_bound tw tm hW.out.2.1 hW.out.2.2 k
      rw [← hd] at hdb ⊢
      obtain ⟨d2, hd2⟩ : ∃ d2, d2 = 2 * d := ⟨_, rfl⟩
      have hw2 : IntKind.u64.wrap (2 * (d : Int)) = (d2 : Int) := by rw [show (2 * (d : Int)) = (d2 : Int) from by omega]; exact wrapU _ (by omega)
      obtain ⟨c, hc⟩ : ∃ c, c = min d2 tm := ⟨_, rfl⟩
      have hmin := minU d2 tm c hc
      have HC : Hd (c = dbl tw tm (k + 1)) := ⟨by rw [hc, hd2, hd]; rfl⟩
      clear hc hd hdb hd2
      by_cases hq : c = tm
      · have hq' : ((c : Int) == (tm : Int)) = true := by simp [hq]
        have HQ := Hd.mk hq
        clear hq
        go_wp2
        go_ret
        have := dbl_most tw tm (k + 1) (by rw [← HC.out]; exact HQ.out) (.inr trivial) (n - 1 - (k + 1))
        rw [show k + 1 + (n - 1 - (k + 1)) = n - 1 from by omega] at this
        have e1 : waits t n = c := by rw [hW.out.1, this, HQ.out]
        rw [e1]
        exact ⟨rfl, rfl⟩
      · have hq' : ((c : Int) == (tm : Int)) = false := beq_eq_false_iff_ne.2 (by omega)
        clear hq
        go_wp2
        go_round
        case rel => exact ⟨k + 1, by omega, by go_num, by rw [HC.out]⟩
        case measure => simp [intOf]; omega
    · have hlt' : ¬ (k : Int) < (n : Int) - 1 := by omega
      obtain rfl : k = n - 1 := by omega
      go_wp2
      go_ret
      exact ⟨by rw [hW.out.1]; rfl, rfl⟩
end Go.Proofs.Ytjampaggidelgaa
