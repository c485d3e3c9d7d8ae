/- How long a job waits each time that its lease is over. -/
import Derived.Test.YtjampaggidelgaaLate
namespace Go.Proofs.Ytjampaggidelgaa
open Go.RowKit
set_option linter.unusedSimpArgs false
set_option linter.unusedVariables false

theorem dbl_step {w m : Nat} (h : w ≤ m) (n : Nat) : dbl w m n ≤ dbl w m (n + 1) ∧ dbl w m (n + 1) ≤ 2 * dbl w m n := by
  have := dbl_le h n
  simp only [dbl]
  omega
/-- What lies behind the k-th round. -/
def lastW (t : Times) (k : Nat) : Nat := if k = 0 then 0 else waits t (min k 64)
theorem lastW_next {t : Times} (h : t.wait ≤ t.most) (k : Nat) (hk : 0 < k) : lastW t k ≤ lastW t (k + 1) ∧ lastW t (k + 1) ≤ 2 * lastW t k := by
  unfold lastW waits
  rw [if_neg (by omega), if_neg (by omega)]
  by_cases h64 : k < 64
  · rw [show min (k + 1) 64 - 1 = (min k 64 - 1) + 1 from by omega]
    exact dbl_step h _
  · rw [show min (k + 1) 64 = min k 64 from by omega]
    omega
theorem lastW_one (t : Times) : lastW t 1 = t.wait := rfl
theorem lastW_le {t : Times} (h : t.wait ≤ t.most) (k : Nat) : lastW t k ≤ t.most := by
  unfold lastW
  split
  · omega
  · exact dbl_le h _
theorem lastW_tries (t : Times) (k : Nat) : waits t (min (min k 64 + 1) 64) = lastW t (k + 1) := by
  unfold lastW
  rw [if_neg (by omega), show min (min k 64 + 1) 64 = min (k + 1) 64 from by omega]
section
variable {p B : Nat} {t : Times} {w : World} {N k : Nat}
theorem waits_new (ht : SmallT t) : Calls Try.prog 11 #[.int .i64 1, .agg #[.int .u64 t.lease, .int .u64 t.wait, .int .u64 t.most], .int .u64 0] w fun e w' => ∃ p B, e = .returned (.tuple #[.pointer (some ⟨p, 0, none⟩), .int .i64 0]) ∧
      TabAt w' p B [Job.zero] t 0 ∧ Below w.heap.size w w' ∧ w.heap.size ≤ p ∧ w.heap.size ≤ B := new_small 1 t 0 w (by omega) (by omega) ht (by omega)
theorem waits_next (h : TabAt w p B [⟨false, 0, 0, min k 64, N⟩] t k) (hn : N ≤ 1000000) (hk : k ≤ 100) : Calls Try.prog 12 #[.pointer (some ⟨p, 0, none⟩), .int .u64 N] w fun e w' => e = .returned (.tuple #[.int .i64 0, .int .u64 (k + 1 : Int), .bool true]) ∧ Kept w w' p B ∧
    TabAt w' p B [⟨false, k + 1, N + t.lease, min (min k 64 + 1) 64, N⟩] t (k + 1) :=
  next_some p B _ t k N 0 w h (by omega) (by omega) (by simp [firstFree, List.findIdx?_cons, Job.free]) (by simp)
theorem waits_refuse (h : TabAt w p B [⟨false, k + 1, N + t.lease, min (min k 64 + 1) 64, N⟩] t (k + 1)) (hn : N ≤ 1000000) (hk : k ≤ 100) :
    Calls Try.prog 17 #[.pointer (some ⟨p, 0, none⟩), .int .i64 0, .int .u64 (k + 1 : Int), .int .u64 N] w fun e w' => Kept w w' p B ∧ (∃ v, e = .returned v) ∧ TabAt w' p B [⟨false, 0, 0, min (k + 1) 64, N + lastW t (k + 1)⟩] t (k + 1) := by
  refine (refuse_in p B _ t (k + 1) 0 (k + 1) N w h (by simp) (by omega)).mono ?_
  rintro e w' ⟨h1, h2, h3⟩
  have ea : answerIn ([⟨false, k + 1, N + t.lease, min (min k 64 + 1) 64, N⟩] : List Job)[0] (k + 1) = 0 := by simp [answerIn]
  have er : (refused [⟨false, k + 1, N + t.lease, min (min k 64 + 1) 64, N⟩] t 0 ([⟨false, k + 1, N + t.lease, min (min k 64 + 1) 64, N⟩] : List Job)[0] (k + 1) N).2 = [⟨false, 0, 0, min (k + 1) 64, N + lastW t (k + 1)⟩] := by
    unfold refused
    rw [if_pos ea, if_neg (by omega)]
    simp only [List.getElem_cons_zero, List.set_cons_zero, Job.over, lastW_tries]
    rw [show min (min k 64 + 1) 64 = min (k + 1) 64 from by omega]
  rw [er] at h3
  exact ⟨h1, ⟨_, h2⟩, h3⟩
theorem waits_expire (h : TabAt w p B [⟨false, k + 1, N + t.lease, min (min k 64 + 1) 64, N⟩] t (k + 1)) (hn : N ≤ 1000000) (hl : t.lease ≤ 20) :
    Calls Try.prog 13 #[.pointer (some ⟨p, 0, none⟩), .int .u64 (N + t.lease : Nat)] w fun e w' => Kept w w' p B ∧ (∃ v, e = .returned v) ∧ TabAt w' p B [⟨false, 0, 0, min (k + 1) 64, (N + t.lease) + lastW t (k + 1)⟩] t (k + 1) := by
  refine (expire_in p B _ t (k + 1) (N + t.lease) w h (by omega)).mono ?_
  have d0 : Job.due ⟨false, k + 1, N + t.lease, min (min k 64 + 1) 64, N⟩ (N + t.lease) = true := by simp [Job.due]
  have e1 : agedTo [⟨false, k + 1, N + t.lease, min (min k 64 + 1) 64, N⟩] t (N + t.lease) 1 = [⟨false, 0, 0, min (k + 1) 64, (N + t.lease) + lastW t (k + 1)⟩] := by
    simp only [agedTo, List.take_succ_cons, List.take_zero, List.map_cons, List.map_nil, Job.aged, d0, if_pos, Job.over, lastW_tries]
    rw [show min (min k 64 + 1) 64 = min (k + 1) 64 from by omega]
    rfl
  rintro e w' ⟨hk, ht, v, rfl, _⟩
  simp only [List.length_cons, List.length_nil] at ht
  rw [e1] at ht
  exact ⟨hk, ⟨_, rfl⟩, ht⟩
end
def WaitR (w3 : World) (p B b : Nat) (t : Times) (k N : Nat) (wr : World) : Prop := TabAt wr p B [⟨false, 0, 0, min k 64, N⟩] t k ∧ Kept w3 wr p B ∧ TimesAt wr b t ∧ N ≤ k * 90
set_option maxRecDepth 100000 in
set_option maxHeartbeats 1600000 in
theorem leaseWaits (t : Times) (n : Nat) (refused : Bool) (w : World) (hn : n ≤ 255) :
    Calls Try.prog 6 #[.agg #[.int .u64 t.lease, .int .u64 t.wait, .int .u64 t.most], .int .u8 n, .bool refused] w fun e w' => e = .returned (.bool true) ∧ Below w.heap.size w w' := by
  have hbx := TimesAt.new w t
  have HB0 := Hd.mk ((Below.refl w.heap.size w).alloc (Nat.le_refl _) (.cells #[.int .u64 t.lease, .int .u64 t.wait, .int .u64 t.most] 24))
  have HX0 := Hd.mk hbx
  clear hbx
  go_enter Try.func6, Try.ntmps6
  go_wp2_with fail
  refine (awake_any _).mono ?_
  rintro e w1 ⟨rfl, hb⟩
  have HX1 := Hd.mk (HX0.out.below hb)
  have HB1 := Hd.mk (HB0.out.trans (hb.mono HB0.out.size))
  clear hb HX0 HB0
  obtain ⟨c0, c1, c2⟩ := And.intro HX1.out.c0 (And.intro HX1.out.c1 HX1.out.c2)
  go_wp2_with fail
  refine (times_any t _).mono ?_
  rintro e w2 ⟨rfl, hb⟩
  have HX2 := Hd.mk (HX1.out.below hb)
  have HB2 := Hd.mk (HB1.out.trans (hb.mono HB1.out.size))
  clear hb c0 c1 c2 HX1 HB1
  obtain ⟨c0, c1, c2⟩ := And.intro HX2.out.c0 (And.intro HX2.out.c1 HX2.out.c2)
  obtain ⟨f0, f1, f2⟩ := And.intro (HX2.out.free 0) (And.intro (HX2.out.free 1) (HX2.out.free 2))
  have hst := HX2.out.store (t' := t.small)
  have hbs := below_set (below_set (below_set HB2.out ⟨w.heap.size, 0, none⟩ (.int .u64 t.small.lease) (Nat.le_refl _)) ⟨w.heap.size, 1, none⟩ (.int .u64 t.small.wait) (Nat.le_refl _)) ⟨w.heap.size, 2, none⟩ (.int .u64 t.small.most) (Nat.le_refl _)
  have HX3 := Hd.mk hst
  have HB3 := Hd.mk hbs
  clear hst hbs
  go_wp2_with fail
  obtain ⟨s, hs⟩ : ∃ s, s = t.small := ⟨_, rfl⟩
  have hok := small_ok t
  rw [← hs] at hok HX3 HB3 ⊢
  clear hs c0 c1 c2 f0 f1 f2
  obtain ⟨y, hy⟩ : ∃ y, y = (((w2.setCell ⟨w.heap.size, 0, none⟩ (.int .u64 s.lease)).setCell ⟨w.heap.size, 1, none⟩ (.int .u64 s.wait)).setCell ⟨w.heap.size, 2, none⟩ (.int .u64 s.most)) := ⟨_, rfl⟩
  rw [← hy] at HX3 HB3 ⊢
  have HK := Hd.mk hok
  clear hy hok HX2 HB2
  refine (waits_new HK.out).mono ?_
  rintro e w3 ⟨p, B, rfl, ht, hb, hp, hB⟩
  have hlt := HX3.out.lt
  have HX4 := Hd.mk (HX3.out.below hb)
  have HB4 : Hd (Below w.heap.size w w3 ∧ w.heap.size ≤ p ∧ w.heap.size ≤ B ∧ w.heap.size ≠ p ∧ w.heap.size ≠ B) := ⟨HB3.out.trans (hb.mono HB3.out.size), by omega, by omega, by omega, by omega⟩
  have HT := Hd.mk ht
  clear ht hb hp hB hlt HX3 HB3
  go_wp2_with fail
  go_loopw [9, 10, 27] (fun v u i wr => ∃ k N : Nat, k ≤ n % 80 ∧ i = .int .u8 k ∧ v = .int .u64 N ∧ u = .int .u64 (lastW s k) ∧ WaitR w3 p B w.heap.size s k N wr) (fun _ _ i _ => n % 80 - (intOf i).toNat)
  case atStart => exact ⟨0, 0, Nat.zero_le _, rfl, rfl, rfl, HT.out, Kept.refl _ _ _, HX4.out, Nat.zero_le _⟩
  case round =>
    obtain ⟨k, N, hk, rfl, rfl, rfl, hR⟩ := hrel
    have HR := Hd.mk hR
    have hN := hR.2.2.2
    clear hR
    have hmb : n % 80 < 80 := Nat.mod_lt _ (by omega)
    by_cases hlt : k < n % 80
    · have hlt' : (k : Int) < (n : Int) % 80 := by omega
      go_wp2_with fail
      refine (waits_next HR.out.1 (by omega) (by omega)).mono ?_
      rintro e w5 ⟨rfl, hkp, ht⟩
      have HK5 := Hd.mk (HR.out.2.1.trans hkp)
      have HX5 := Hd.mk (HR.out.2.2.1.kept hkp HB4.out.2.2.2.1 HB4.out.2.2.2.2)
      have HT5 := Hd.mk ht
      clear ht hkp
      have hL1 := HK.out.l2
      -- behind both ways: the table, the times; at N2 the lease was over
      have hfin : ∀ (N2 : Nat) (w6 : World), N2 ≤ k * 90 + 20 → Kept w5 w6 p B → TabAt w6 p B [⟨false, 0, 0, min (k + 1) 64, N2 + lastW s (k + 1)⟩] s (k + 1) → Hd (WaitR w3 p B w.heap.size s (k + 1) (N2 + lastW s (k + 1)) w6) := fun N2 w6 h2 hk2 ht2 => by
        refine ⟨ht2, HK5.out.trans hk2, HX5.out.kept hk2 HB4.out.2.2.2.1 HB4.out.2.2.2.2, ?_⟩
        have := lastW_le HK.out.m1 (k + 1)
        have := HK.out.m2
        omega
      have HF := Hd.mk hfin
      clear hfin
      cases refused with
      | true =>
        go_wp2_with fail
        refine (waits_refuse HT5.out (by omega) (by omega)).mono ?_
        rintro e w6 ⟨hk6, ⟨ve, rfl⟩, ht6⟩
        have HR6 := HF.out N w6 (by omega) hk6 ht6
        clear hk6 ht6
        go_wp2_with fail
        obtain ⟨lw, hlw⟩ : ∃ x, x = lastW s (k + 1) := ⟨_, rfl⟩
        obtain ⟨la, hla⟩ : ∃ x, x = lastW s k := ⟨_, rfl⟩
        obtain ⟨W, hW⟩ : ∃ x, x = s.wait := ⟨_, rfl⟩
        obtain ⟨M, hM⟩ : ∃ x, x = s.most := ⟨_, rfl⟩
        rw [← hlw] at HR6
        rw [← hla]
        have b1 : lw ≤ M := by rw [hlw, hM]; exact lastW_le HK.out.m1 _
        have b2 : M ≤ 70 := by rw [hM]; exact HK.out.m2
        have b3 : la ≤ 70 := by have := lastW_le HK.out.m1 k; have := HK.out.m2; omega
        have b4 : k = 0 → lw = W := fun h => by subst h; rw [hlw, hW]; exact lastW_one s
        have b5 : 0 < k → la ≤ lw ∧ lw ≤ 2 * la := fun h => by rw [hla, hlw]; exact lastW_next HK.out.m1 k h
        have c1 := HR6.out.2.2.1.c1
        have c2 := HR6.out.2.2.1.c2
        rw [← hW] at c1
        rw [← hM] at c2
        have HW := Hd.mk (And.intro hlw (And.intro hla (And.intro hW hM)))
        clear hlw hla hW hM
        refine (jobs_one p B _ s (k + 1) w6 HR6.out.1).mono ?_
        rintro e w7 ⟨hb7, g7, c7, rfl, hg7, -, hc7⟩
        simp only at hc7
        have HR7 : Hd (WaitR w3 p B w.heap.size s (k + 1) (N + lw) w7) := ⟨HR6.out.1.old hb7, HR6.out.2.1.trans (Kept.of_below hb7), HR6.out.2.2.1.below hb7, HR6.out.2.2.2⟩
        have c1 := HR7.out.2.2.1.c1
        have c2 := HR7.out.2.2.1.c2
        rw [← HW.out.2.2.1] at c1
        rw [← HW.out.2.2.2] at c2
        clear hb7 hg7
        have hsub : (N : Int) + (lw : Int) - (N : Int) = (lw : Int) := by omega
        have b6 : ¬ (M : Int) < (lw : Int) := by omega
        by_cases hk0 : k = 0
        · have t1 : ((k : Int) == 0) = true := by simp [hk0]
          have t2 : ((lw : Int) != (W : Int)) = false := by simp [b4 hk0]
          have t3 : ¬ (0 : Int) < (k : Int) := by omega
          clear hk0 b4 b5
          go_wp2
          go_roundw
          case rel => exact ⟨k + 1, N + lw, by omega, by go_num, by go_num, by rw [← HW.out.1], HR7.out⟩
          case measure => simp [intOf]; omega
        · have t1 : ((k : Int) == 0) = false := beq_eq_false_iff_ne.2 (by omega)
          have t3 : (0 : Int) < (k : Int) := by omega
          have t4 : ¬ (lw : Int) < (la : Int) := by have := b5 (by omega); omega
          have t5 : ¬ 2 * (la : Int) < (lw : Int) := by have := b5 (by omega); omega
          clear hk0 b4 b5
          go_wp2
          go_roundw
          case rel => exact ⟨k + 1, N + lw, by omega, by go_num, by go_num, by rw [← HW.out.1], HR7.out⟩
          case measure => simp [intOf]; omega
      | false =>
        have c0 := HX5.out.c0
        obtain ⟨L, hL⟩ : ∃ L, L = s.lease := ⟨_, rfl⟩
        rw [← hL] at c0 hL1
        have hx := waits_expire HT5.out (by omega) HK.out.l2
        rw [← hL] at hx HT5
        have HL := Hd.mk hL
        clear hL
        go_wp2_with fail
        rw [Int.natCast_add] at hx
        refine hx.mono ?_
        clear hx
        rintro e w6 ⟨hk6, ⟨ve, rfl⟩, ht6⟩
        have HR6 := HF.out (N + L) w6 (by omega) hk6 ht6
        clear hk6 ht6 c0
        go_wp2_with fail
        obtain ⟨lw, hlw⟩ : ∃ x, x = lastW s (k + 1) := ⟨_, rfl⟩
        obtain ⟨la, hla⟩ : ∃ x, x = lastW s k := ⟨_, rfl⟩
        obtain ⟨W, hW⟩ : ∃ x, x = s.wait := ⟨_, rfl⟩
        obtain ⟨M, hM⟩ : ∃ x, x = s.most := ⟨_, rfl⟩
        rw [← hlw] at HR6
        rw [← hla]
        have b1 : lw ≤ M := by rw [hlw, hM]; exact lastW_le HK.out.m1 _
        have b2 : M ≤ 70 := by rw [hM]; exact HK.out.m2
        have b3 : la ≤ 70 := by have := lastW_le HK.out.m1 k; have := HK.out.m2; omega
        have b4 : k = 0 → lw = W := fun h => by subst h; rw [hlw, hW]; exact lastW_one s
        have b5 : 0 < k → la ≤ lw ∧ lw ≤ 2 * la := fun h => by rw [hla, hlw]; exact lastW_next HK.out.m1 k h
        have c1 := HR6.out.2.2.1.c1
        have c2 := HR6.out.2.2.1.c2
        rw [← hW] at c1
        rw [← hM] at c2
        have HW := Hd.mk (And.intro hlw (And.intro hla (And.intro hW hM)))
        clear hlw hla hW hM
        refine (jobs_one p B _ s (k + 1) w6 HR6.out.1).mono ?_
        rintro e w7 ⟨hb7, g7, c7, rfl, hg7, -, hc7⟩
        simp only at hc7
        have HR7 : Hd (WaitR w3 p B w.heap.size s (k + 1) (N + L + lw) w7) := ⟨HR6.out.1.old hb7, HR6.out.2.1.trans (Kept.of_below hb7), HR6.out.2.2.1.below hb7, HR6.out.2.2.2⟩
        have c1 := HR7.out.2.2.1.c1
        have c2 := HR7.out.2.2.1.c2
        rw [← HW.out.2.2.1] at c1
        rw [← HW.out.2.2.2] at c2
        clear hb7 hg7
        have hsub : (N : Int) + (L : Int) + (lw : Int) - ((N : Int) + (L : Int)) = (lw : Int) := by omega
        have b6 : ¬ (M : Int) < (lw : Int) := by omega
        by_cases hk0 : k = 0
        · have t1 : ((k : Int) == 0) = true := by simp [hk0]
          have t2 : ((lw : Int) != (W : Int)) = false := by simp [b4 hk0]
          have t3 : ¬ (0 : Int) < (k : Int) := by omega
          clear hk0 b4 b5
          go_wp2
          go_roundw
          case rel => exact ⟨k + 1, N + L + lw, by omega, by go_num, by go_num, by rw [← HW.out.1], HR7.out⟩
          case measure => simp [intOf]; omega
        · have t1 : ((k : Int) == 0) = false := beq_eq_false_iff_ne.2 (by omega)
          have t3 : (0 : Int) < (k : Int) := by omega
          have t4 : ¬ (lw : Int) < (la : Int) := by have := b5 (by omega); omega
          have t5 : ¬ 2 * (la : Int) < (lw : Int) := by have := b5 (by omega); omega
          clear hk0 b4 b5
          go_wp2
          go_roundw
          case rel => exact ⟨k + 1, N + L + lw, by omega, by go_num, by go_num, by rw [← HW.out.1], HR7.out⟩
          case measure => simp [intOf]; omega
    · have hlt' : ¬ (k : Int) < (n : Int) % 80 := by omega
      go_wp2
      go_ret
      exact ⟨rfl, HR.out.2.1.below HB4.out.1 HB4.out.2.1 HB4.out.2.2.1⟩
end Go.Proofs.Ytjampaggidelgaa
