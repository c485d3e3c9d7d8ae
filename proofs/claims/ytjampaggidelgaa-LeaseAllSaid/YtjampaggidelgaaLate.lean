/- A lease lasts just as long as it says. -/
import Derived.Test.YtjampaggidelgaaTimes
namespace Go.Proofs.Ytjampaggidelgaa
open Go.RowKit
set_option linter.unusedSimpArgs false
set_option linter.unusedVariables false
section
variable {p B : Nat} {t : Times} {w : World} {now k : Nat}
theorem late_new (ht : SmallT t) : Calls Try.prog 11 #[.int .i64 2, .agg #[.int .u64 t.lease, .int .u64 t.wait, .int .u64 t.most], .int .u64 5] w fun e w' => ∃ p B, e = .returned (.tuple #[.pointer (some ⟨p, 0, none⟩), .int .i64 0]) ∧
      TabAt w' p B [Job.zero, Job.zero] t 5 ∧ Below w.heap.size w w' ∧ w.heap.size ≤ p ∧ w.heap.size ≤ B := new_small 2 t 5 w (by omega) (by omega) ht (by omega)
theorem late_next1 (h : TabAt w p B [Job.zero, Job.zero] t 5) (hn : now ≤ 1000000) : Calls Try.prog 12 #[.pointer (some ⟨p, 0, none⟩), .int .u64 now] w fun e w' => e = .returned (.tuple #[.int .i64 0, .int .u64 6, .bool true]) ∧ Kept w w' p B ∧
    TabAt w' p B [⟨false, 6, now + t.lease, 1, 0⟩, Job.zero] t 6 :=
  next_some p B _ t 5 now 0 w h (by omega) (by omega) (by simp [firstFree, List.findIdx?_cons, Job.free, Job.zero]) (by simp)
theorem late_exp1 (h : TabAt w p B [⟨false, 6, now + t.lease, 1, 0⟩, Job.zero] t 6) (hn : now ≤ 1000000) (hk : k < t.lease) (hl : t.lease ≤ 20) : Calls Try.prog 13 #[.pointer (some ⟨p, 0, none⟩), .int .u64 (now + k : Nat)] w fun e w' => Kept w w' p B ∧
    TabAt w' p B [⟨false, 6, now + t.lease, 1, 0⟩, Job.zero] t 6 ∧ ∃ A c, e = .returned (.slice A 0 c) := by
  refine (expire_in p B _ t 6 (now + k) w h (by omega)).mono ?_
  have d0 : Job.due ⟨false, 6, now + t.lease, 1, 0⟩ (now + k) = false := by simp [Job.due]; omega
  have d1 : Job.due Job.zero (now + k) = false := by simp [Job.due, Job.zero]
  have e1 : agedTo [⟨false, 6, now + t.lease, 1, 0⟩, Job.zero] t (now + k) 2 = [⟨false, 6, now + t.lease, 1, 0⟩, Job.zero] := by simp [agedTo, Job.aged, d0, d1]
  have e2 : dueTo [⟨false, 6, now + t.lease, 1, 0⟩, Job.zero] (now + k) 2 = [] := by simp [dueTo, List.range, List.range.loop, List.filter_cons, d0, d1]
  rintro e w' ⟨hk, ht, v, rfl, hown⟩
  simp only [List.length_cons, List.length_nil] at ht hown
  rw [e1] at ht
  rw [e2] at hown
  refine ⟨hk, ht, ?_⟩
  obtain ⟨A, c, rfl, _⟩ := own_row hown
  exact ⟨A, c, rfl⟩
theorem late_exp2 (h : TabAt w p B [⟨false, 6, now + t.lease, 1, 0⟩, Job.zero] t 6) (hn : now ≤ 1000000) (hl : t.lease ≤ 20) : Calls Try.prog 13 #[.pointer (some ⟨p, 0, none⟩), .int .u64 (now + t.lease : Nat)] w fun e w' => Kept w w' p B ∧
    TabAt w' p B [⟨false, 0, 0, 1, now + t.lease + t.wait⟩, Job.zero] t 6 ∧ ∃ g c, e = .returned (.slice (some ⟨g, 0, none⟩) 1 c) ∧ w'.cell? ⟨g, 0, none⟩ = some (.int .i64 0) ∧ w.heap.size ≤ g ∧ g < w'.heap.size := by
  refine (expire_in p B _ t 6 (now + t.lease) w h (by omega)).mono ?_
  have d0 : Job.due ⟨false, 6, now + t.lease, 1, 0⟩ (now + t.lease) = true := by simp [Job.due]
  have d1 : Job.due Job.zero (now + t.lease) = false := by simp [Job.due, Job.zero]
  have e1 : agedTo [⟨false, 6, now + t.lease, 1, 0⟩, Job.zero] t (now + t.lease) 2 = [⟨false, 0, 0, 1, now + t.lease + t.wait⟩, Job.zero] := by simp [agedTo, Job.aged, d0, d1, Job.over, waits, dbl]
  have e2 : dueTo [⟨false, 6, now + t.lease, 1, 0⟩, Job.zero] (now + t.lease) 2 = [0] := by simp [dueTo, List.range, List.range.loop, List.filter_cons, d0, d1]
  rintro e w' ⟨hk, ht, v, rfl, hown⟩
  simp only [List.length_cons, List.length_nil] at ht hown
  rw [e1] at ht
  rw [e2] at hown
  refine ⟨hk, ht, ?_⟩
  obtain ⟨A, c, rfl, hr, _, hb, _⟩ := own_row hown
  obtain ⟨g, o, rfl, hc⟩ := hr 0 (by simp [idxV])
  obtain ⟨g', c', e', hg'⟩ := own_form hown (by simp)
  simp only [Value.slice.injEq, Option.some.injEq, Addr.mk.injEq, and_true] at e'
  obtain ⟨⟨rfl, rfl⟩, _, rfl⟩ := e'
  exact ⟨g, c, rfl, by simpa [idxV] using hc, hg', World.block_lt_of_cell? w' ⟨g, 0 + 0, none⟩ hc⟩
theorem late_next2 (h : TabAt w p B [⟨false, 0, 0, 1, now + t.lease + t.wait⟩, Job.zero] t 6) (hn : now ≤ 1000000) (ht : SmallT t) : Calls Try.prog 12 #[.pointer (some ⟨p, 0, none⟩), .int .u64 (now + t.lease + t.wait - 1 : Nat)] w fun e w' => e = .returned (.tuple #[.int .i64 1, .int .u64 7, .bool true]) ∧ Kept w w' p B ∧
    ∃ j, TabAt w' p B [⟨false, 0, 0, 1, now + t.lease + t.wait⟩, j] t 7 := by
  have h1 := ht.l2
  have h2 := ht.w2
  have h3 := ht.w1
  have hf : firstFree [⟨false, 0, 0, 1, now + t.lease + t.wait⟩, Job.zero] (now + t.lease + t.wait - 1) = some 1 := by
    have a0 : Job.free ⟨false, 0, 0, 1, now + t.lease + t.wait⟩ (now + t.lease + t.wait - 1) = false := by simp [Job.free]; omega
    have a1 : Job.free Job.zero (now + t.lease + t.wait - 1) = true := by simp [Job.free, Job.zero]
    simp [firstFree, List.findIdx?_cons, a0, a1]
  exact (next_some p B _ t 6 (now + t.lease + t.wait - 1) 1 w h (by omega) (by omega) hf (by simp)).mono fun e w' ⟨he, hk, ht⟩ => ⟨he, hk, _, ht⟩
end
set_option maxHeartbeats 1600000 in
theorem leaseLate (t : Times) (now early : Nat) (w : World) (hn : now ≤ 65535) (he : early ≤ 255) :
    Calls Try.prog 4 #[.agg #[.int .u64 t.lease, .int .u64 t.wait, .int .u64 t.most], .int .u16 now, .int .u8 early] w fun e w' => e = .returned (.bool true) ∧ Below w.heap.size w w' := by
  have hbx := TimesAt.new w t
  have HB0 := Hd.mk ((Below.refl w.heap.size w).alloc (Nat.le_refl _) (.cells #[.int .u64 t.lease, .int .u64 t.wait, .int .u64 t.most] 24))
  have HX0 := Hd.mk hbx
  clear hbx
  go_enter Try.func4, Try.ntmps4
  go_wp2_with fail
  refine (awake_any _).mono ?_
  rintro e w1 ⟨rfl, hb⟩
  have HX1 := Hd.mk (HX0.out.below hb)
  have HB1 := Hd.mk (HB0.out.trans (hb.mono HB0.out.size))
  clear hb HX0 HB0
  obtain ⟨c0, c1, c2⟩ := And.intro HX1.out.c0 (And.intro HX1.out.c1 HX1.out.c2)
  go_wp2_with fail
  refine (times_any t _).mono ?_
  rintro e w2 ⟨rfl, hb⟩
  have HX2 := Hd.mk (HX1.out.below hb)
  have HB2 := Hd.mk (HB1.out.trans (hb.mono HB1.out.size))
  clear hb c0 c1 c2 HX1 HB1
  obtain ⟨c0, c1, c2⟩ := And.intro HX2.out.c0 (And.intro HX2.out.c1 HX2.out.c2)
  obtain ⟨f0, f1, f2⟩ := And.intro (HX2.out.free 0) (And.intro (HX2.out.free 1) (HX2.out.free 2))
  have hst := HX2.out.store (t' := t.small)
  have hbs := below_set (below_set (below_set HB2.out ⟨w.heap.size, 0, none⟩ (.int .u64 t.small.lease) (Nat.le_refl _)) ⟨w.heap.size, 1, none⟩ (.int .u64 t.small.wait) (Nat.le_refl _)) ⟨w.heap.size, 2, none⟩ (.int .u64 t.small.most) (Nat.le_refl _)
  have HX3 := Hd.mk hst
  have HB3 := Hd.mk hbs
  clear hst hbs
  go_wp2_with fail
  obtain ⟨s, hs⟩ : ∃ s, s = t.small := ⟨_, rfl⟩
  have hok := small_ok t
  rw [← hs] at hok HX3 HB3 ⊢
  clear hs
  clear c0 c1 c2 f0 f1 f2
  obtain ⟨y, hy⟩ : ∃ y, y = (((w2.setCell ⟨w.heap.size, 0, none⟩ (.int .u64 s.lease)).setCell ⟨w.heap.size, 1, none⟩ (.int .u64 s.wait)).setCell ⟨w.heap.size, 2, none⟩ (.int .u64 s.most)) := ⟨_, rfl⟩
  rw [← hy] at HX3 HB3 ⊢
  have HK := Hd.mk hok
  clear hy hok HX2 HB2
  refine (late_new HK.out).mono ?_
  rintro e w3 ⟨p, B, rfl, ht, hb, hp, hB⟩
  have hlt := HX3.out.lt
  have HX4 := Hd.mk (HX3.out.below hb)
  have HB4 : Hd (Below w.heap.size w w3 ∧ w.heap.size ≤ p ∧ w.heap.size ≤ B ∧ w.heap.size ≠ p ∧ w.heap.size ≠ B) := ⟨HB3.out.trans (hb.mono HB3.out.size), by omega, by omega, by omega, by omega⟩
  have HT := Hd.mk ht
  clear ht hb hp hB hlt HX3 HB3
  go_wp2_with fail
  refine (late_next1 HT.out (by omega)).mono ?_
  rintro e w4 ⟨rfl, hk, ht⟩
  have HX5 := Hd.mk (HX4.out.kept hk HB4.out.2.2.2.1 HB4.out.2.2.2.2)
  have HK4 := Hd.mk hk
  have HT4 := Hd.mk ht
  clear ht hk HT HX4
  obtain ⟨c0, c1⟩ := And.intro HX5.out.c0 HX5.out.c1
  obtain ⟨L, hL⟩ : ∃ L, L = s.lease := ⟨_, rfl⟩
  rw [← hL] at c0
  have hL1 : 1 ≤ L := by rw [hL]; exact HK.out.l1
  have hL2 : L ≤ 20 := by rw [hL]; exact HK.out.l2
  have HL := Hd.mk hL
  clear hL
  have hL0 : ((L : Int) == 0) = false := beq_eq_false_iff_ne.2 (by omega)
  obtain ⟨k, hk⟩ : ∃ k, k = early % L := ⟨_, rfl⟩
  have hkm : (early : Int) % (L : Int) = (k : Int) := by rw [hk]; simp
  have hk1 : k < L := by rw [hk]; exact Nat.mod_lt _ (by omega)
  clear hk
  go_wp2_with fail
  clear hkm
  have hx := late_exp1 (k := k) HT4.out (by omega) (by rw [← HL.out]; exact hk1) (by rw [← HL.out]; exact hL2)
  rw [Int.natCast_add] at hx
  refine hx.mono ?_
  clear hx
  rintro e w5 ⟨hkp, ht, A5, c5, rfl⟩
  have HK5 := Hd.mk (HK4.out.trans hkp)
  have HX6 := Hd.mk (HX5.out.kept hkp HB4.out.2.2.2.1 HB4.out.2.2.2.2)
  have HT5 := Hd.mk ht
  clear ht hkp HX5 HT4 HK4 c0 c1
  go_wp2_with fail
  have hx := answer_in p B _ s 6 0 6 w5 HT5.out (by simp) (by omega)
  rw [show answerIn (([⟨false, 6, now + s.lease, 1, 0⟩, Job.zero] : List Job)[0]) 6 = 0 from by simp [answerIn]] at hx
  refine hx.mono ?_
  clear hx
  rintro e w6 ⟨rfl, rfl⟩
  obtain ⟨c0, c1⟩ := And.intro HX6.out.c0 HX6.out.c1
  rw [← HL.out] at c0
  go_wp2_with fail
  have hx := late_exp2 HT5.out (by omega) (by rw [← HL.out]; exact hL2)
  rw [Int.natCast_add, ← HL.out] at hx
  refine hx.mono ?_
  clear hx
  rintro e w7 ⟨hkp, ht, g, c7, rfl, hcg, hg1, hg2⟩
  have HK7 := Hd.mk (HK5.out.trans hkp)
  have HX7 := Hd.mk (HX6.out.kept hkp HB4.out.2.2.2.1 HB4.out.2.2.2.2)
  have hps := HT5.out.lt
  have HG : Hd (g ≠ p ∧ g ≠ B ∧ w7.cell? ⟨g, 0, none⟩ = some (.int .i64 0)) := ⟨by omega, by omega, hcg⟩
  have HT7 := Hd.mk ht
  clear ht hkp HX6 HT5 HK5 c0 c1 hcg hg1 hg2 hps
  go_wp2_with fail
  have hx := answer_in p B _ s 6 0 6 w7 HT7.out (by simp) (by omega)
  rw [show answerIn (([⟨false, 0, 0, 1, now + L + s.wait⟩, Job.zero] : List Job)[0]) 6 = 60 from by simp [answerIn]] at hx
  refine hx.mono ?_
  clear hx
  rintro e w8 ⟨rfl, rfl⟩
  obtain ⟨W, hW⟩ : ∃ W, W = s.wait := ⟨_, rfl⟩
  obtain ⟨c0, c1⟩ := And.intro HX7.out.c0 HX7.out.c1
  rw [← HL.out] at c0
  rw [← hW] at c1
  have hW1 : 1 ≤ W := by rw [hW]; exact HK.out.w1
  have hW2 : W ≤ 10 := by rw [hW]; exact HK.out.w2
  have HW := Hd.mk hW
  clear hW
  go_wp2_with fail
  have hx := late_next2 (now := now) (by rw [← HL.out]; exact HT7.out) (by omega) HK.out
  rw [← HL.out, ← HW.out, show ((now + L + W - 1 : Nat) : Int) = (now : Int) + (L : Int) + (W : Int) - 1 from by omega] at hx
  refine hx.mono ?_
  clear hx
  rintro e w9 ⟨rfl, hkp, j9, ht⟩
  have HK9 := Hd.mk (HK7.out.trans hkp)
  have HG9 := Hd.mk (cell_kept hkp HG.out.2.2 HG.out.1 HG.out.2.1)
  have HT9 := Hd.mk ht
  clear ht hkp HX7 HT7 HK7 c0 c1
  have hcg := HG9.out
  go_wp2_with fail
  have hx := jobs_any p B _ s 7 w9 HT9.out
  refine hx.mono ?_
  clear hx
  rintro e w10 ⟨hb, v, rfl, hj⟩
  obtain ⟨g2, c2, rfl, _, _, hcell⟩ := hj.form (by simp)
  have hz : w10.cell? ⟨g2, 1, none⟩ = some (.int .u64 0) := hcell 0 (by simp) 1 (by omega)
  have HK10 := Hd.mk (HK9.out.trans (Kept.of_below hb))
  clear hb hj hcell hcg
  go_wp2
  go_ret
  exact ⟨rfl, HK10.out.below HB4.out.1 HB4.out.2.1 HB4.out.2.2.1⟩
end Go.Proofs.Ytjampaggidelgaa
