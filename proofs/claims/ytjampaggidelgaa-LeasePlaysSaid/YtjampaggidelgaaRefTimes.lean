/- Bad times: the program's New, the document's Times. -/
import Derived.Test.YtjampaggidelgaaRefSame
namespace Go.Proofs.Ytjampaggidelgaa
open Go.RowKit
set_option linter.unusedSimpArgs false
set_option linter.unusedVariables false
def badT (t : Times) : Bool := bad t.lease || bad t.wait || bad t.most || decide (t.most < t.wait)
set_option maxHeartbeats 800000 in
theorem new_time (n : Nat) (t : Times) (last : Int) (w : World) (h1 : 1 ≤ n) (h2 : n ≤ 16) (hb : badT t = true) :
    Calls Try.prog 11 #[.int .i64 n, .agg #[.int .u64 t.lease, .int .u64 t.wait, .int .u64 t.most], .int .u64 last] w fun e w' => e = .returned (.tuple #[.pointer none, .int .i64 62]) ∧ Below w.heap.size w w' := by
  have hy1 := fun w => most_any t.lease w
  have hy2 := fun w => most_any t.wait w
  have hy3 := fun w => most_any t.most w
  cases hl : bad t.lease with
  | true =>
    rw [hl] at hy1
    clear hb hl
    go_enter Try.func11, Try.ntmps11
    go_wp2_with fail
    refine (hy1 _).mono ?_
    clear hy1 hy2 hy3
    rintro e w' ⟨rfl, rfl⟩
    go_wp2
    go_ret2
    exact ⟨rfl, (Below.refl _ _).alloc (Nat.le_refl _) _⟩
  | false =>
    rw [hl] at hy1
    cases hw : bad t.wait with
    | true =>
      rw [hw] at hy2
      clear hb hl hw
      go_enter Try.func11, Try.ntmps11
      go_wp2_with fail
      refine (hy1 _).mono ?_
      clear hy1
      rintro e w' ⟨rfl, rfl⟩
      go_wp2_with fail
      refine (hy2 _).mono ?_
      clear hy2 hy3
      rintro e w' ⟨rfl, rfl⟩
      go_wp2
      go_ret2
      exact ⟨rfl, (Below.refl _ _).alloc (Nat.le_refl _) _⟩
    | false =>
      rw [hw] at hy2
      cases hm : bad t.most with
      | true =>
        rw [hm] at hy3
        clear hb hl hw hm
        go_enter Try.func11, Try.ntmps11
        go_wp2_with fail
        refine (hy1 _).mono ?_
        clear hy1
        rintro e w' ⟨rfl, rfl⟩
        go_wp2_with fail
        refine (hy2 _).mono ?_
        clear hy2
        rintro e w' ⟨rfl, rfl⟩
        go_wp2_with fail
        refine (hy3 _).mono ?_
        clear hy3
        rintro e w' ⟨rfl, rfl⟩
        go_wp2
        go_ret2
        exact ⟨rfl, (Below.refl _ _).alloc (Nat.le_refl _) _⟩
      | false =>
        rw [hm] at hy3
        have hwm : (t.most : Int) < (t.wait : Int) := by simp [badT, hl, hw, hm] at hb; omega
        clear hb hl hw hm
        go_enter Try.func11, Try.ntmps11
        go_wp2_with fail
        refine (hy1 _).mono ?_
        clear hy1
        rintro e w' ⟨rfl, rfl⟩
        go_wp2_with fail
        refine (hy2 _).mono ?_
        clear hy2
        rintro e w' ⟨rfl, rfl⟩
        go_wp2_with fail
        refine (hy3 _).mono ?_
        clear hy3
        rintro e w' ⟨rfl, rfl⟩
        go_wp2
        go_ret2
        exact ⟨rfl, (Below.refl _ _).alloc (Nat.le_refl _) _⟩
theorem ref_times_range (n : Int) (t : Times) (w : World) (h : n < 1 ∨ 16 < n) :
    Calls Try.prog 18 #[.int .i64 n, .agg #[.int .u64 t.lease, .int .u64 t.wait, .int .u64 t.most]] w fun e w' => e = .returned (.int .i64 2) ∧ Below w.heap.size w w' := by
  by_cases h1 : n < 1
  · clear h
    go_enter Try.func18, Try.ntmps18
    go_wp2
    go_ret
    exact ⟨rfl, (Below.refl _ _).alloc (Nat.le_refl _) _⟩
  · have h2 : 16 < n := by omega
    clear h
    go_enter Try.func18, Try.ntmps18
    go_wp2
    go_ret
    exact ⟨rfl, (Below.refl _ _).alloc (Nat.le_refl _) _⟩
def timesV (t : Times) : Int := if badT t then 62 else 0
def Times.l (t : Times) : List Nat := [t.lease, t.wait, t.most]
set_option maxHeartbeats 800000 in
theorem ref_times (n : Nat) (t : Times) (w : World) (h1 : 1 ≤ n) (h2 : n ≤ 16) :
    Calls Try.prog 18 #[.int .i64 n, .agg #[.int .u64 t.lease, .int .u64 t.wait, .int .u64 t.most]] w fun e w' => e = .returned (.int .i64 (timesV t)) ∧ Below w.heap.size w w' := by
  go_enter Try.func18, Try.ntmps18
  go_wp2_with fail
  obtain ⟨y, hy⟩ : ∃ y, y = (w.alloc (.cells #[.int .u64 t.lease, .int .u64 t.wait, .int .u64 t.most] 24)).alloc (.cells #[.int .u64 t.lease, .int .u64 t.wait, .int .u64 t.most] 22) := ⟨_, rfl⟩
  obtain ⟨b0, hb0⟩ : ∃ b, b = w.heap.size := ⟨_, rfl⟩
  obtain ⟨b1, hb1⟩ : ∃ b, b = w.heap.size + 1 := ⟨_, rfl⟩
  have hX : TimesAt y b0 t := by rw [hy, hb0]; exact (TimesAt.new w t).below ((Below.refl _ _).alloc (Nat.le_refl _) _)
  have hR : Row y (some ⟨b1, 0, none⟩) (t.l.map fun (n : Nat) => Value.int .u64 (n : Int)) := by
    rw [hy, hb1]
    have := row_new (w.alloc (.cells #[.int .u64 t.lease, .int .u64 t.wait, .int .u64 t.most] 24)) (t.l.map fun (n : Nat) => Value.int .u64 (n : Int)) 22 (0, 0)
    have e : (w.alloc (.cells #[.int .u64 t.lease, .int .u64 t.wait, .int .u64 t.most] 24)).heap.size = w.heap.size + 1 := by simp
    rw [e] at this
    exact this
  have hB : Below w.heap.size w y := by rw [hy]; exact ((Below.refl _ _).alloc (Nat.le_refl _) _).alloc (by simp) _
  rw [← hy, ← hb1, ← hb0]
  have HX := Hd.mk (And.intro hX (And.intro hR hB))
  clear hX hR hB hy hb0 hb1
  go_loop [6] (fun i => ∃ k : Nat, k ≤ 3 ∧ i = .int .i64 k ∧ ∀ j (hj : j < t.l.length), j < k → bad t.l[j] = false) (fun i => 3 - (intOf i).toNat)
  case atStart => exact ⟨0, Nat.zero_le _, rfl, fun j hj h => absurd h (by omega)⟩
  case round =>
    obtain ⟨k, hk, rfl, hall⟩ := hrel
    have HA := Hd.mk hall
    clear hall
    by_cases hlt : k < 3
    · have hkl : k < t.l.length := hlt
      obtain ⟨b', o', e', hc⟩ := HX.out.2.1 k (by simpa using hkl)
      simp only [Option.some.injEq, Addr.mk.injEq, and_true] at e'
      obtain ⟨rfl, rfl⟩ := e'
      rw [List.getElem_map, Nat.zero_add] at hc
      obtain ⟨v, hv⟩ : ∃ v, v = t.l[k] := ⟨_, rfl⟩
      rw [← hv] at hc
      cases hbv : bad v with
      | true =>
        have hbt : badT t = true := by
          have hm : v ∈ t.l := by rw [hv]; exact List.getElem_mem hkl
          simp [Times.l] at hm
          unfold badT
          rcases hm with rfl | rfl | rfl <;> simp [hbv]
        have HBT : Hd (timesV t = 62) := ⟨by unfold timesV; rw [hbt]; rfl⟩
        have HV := Hd.mk hv
        clear hv hbt
        by_cases h1' : v < 1
        · have h1i : (v : Int) < 1 := by omega
          clear hbv h1'
          go_wp2
          go_ret
          exact ⟨by rw [HBT.out]; rfl, HX.out.2.2⟩
        · have h1i : ¬ (v : Int) < 1 := by omega
          have h2i : (1099511627776 : Int) < (v : Int) := by simp [bad] at hbv; omega
          clear hbv h1'
          go_wp2
          go_ret
          exact ⟨by rw [HBT.out]; rfl, HX.out.2.2⟩
      | false =>
        have h1i : ¬ (v : Int) < 1 := by simp [bad] at hbv; omega
        have h2i : ¬ (1099511627776 : Int) < (v : Int) := by simp [bad] at hbv; omega
        have HB := Hd.mk (And.intro hbv hv)
        clear hbv hv
        go_wp2
        go_round
        case rel => exact ⟨k + 1, by omega, by go_num, fun j hj hjk => by
          by_cases e : j = k
          · subst e; rw [← HB.out.2]; exact HB.out.1
          · exact HA.out j hj (by omega)⟩
        case measure => simp [intOf]; omega
    · obtain rfl : k = 3 := by omega
      have hl := HA.out 0 (by simp [Times.l]) (by omega)
      have hw := HA.out 1 (by simp [Times.l]) (by omega)
      have hm := HA.out 2 (by simp [Times.l]) (by omega)
      simp only [Times.l, List.getElem_cons_zero, List.getElem_cons_succ] at hl hw hm
      have hbt : badT t = decide (t.most < t.wait) := by simp [badT, hl, hw, hm]
      obtain ⟨c1, c2⟩ := And.intro HX.out.1.c1 HX.out.1.c2
      have HBT := Hd.mk hbt
      clear hl hw hm hbt
      by_cases hwm : t.most < t.wait
      · have hwm' : (t.most : Int) < (t.wait : Int) := by omega
        have HW := Hd.mk hwm
        clear hwm
        go_wp2
        go_ret
        exact ⟨by rw [show timesV t = 62 from by unfold timesV; rw [HBT.out]; simp [HW.out]]; rfl, HX.out.2.2⟩
      · have hwm' : ¬ (t.most : Int) < (t.wait : Int) := by omega
        have HW := Hd.mk hwm
        clear hwm
        go_wp2
        go_ret
        exact ⟨by rw [show timesV t = 0 from by unfold timesV; rw [HBT.out]; simp [HW.out]]; rfl, HX.out.2.2⟩
end Go.Proofs.Ytjampaggidelgaa
