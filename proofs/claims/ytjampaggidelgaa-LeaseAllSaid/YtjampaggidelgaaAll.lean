/- Each job that isn't done is leased again and again. -/
import Derived.Test.YtjampaggidelgaaWaits
import Derived.Test.YtjampaggidelgaaBMap
namespace Go.Proofs.Ytjampaggidelgaa
open Go.RowKit
set_option linter.unusedSimpArgs false
set_option linter.unusedVariables false

/-- The first k jobs are out, till now + L at most; the others are free at now. -/
structure AllR (n k now L : Nat) (js : List Job) : Prop where
  len : js.length = n
  out : ∀ i (h : i < js.length), i < k → js[i].done = false ∧ js[i].lease ≠ 0 ∧ js[i].deadline ≤ now + L
  free : ∀ i (h : i < js.length), k ≤ i → js[i].done = false ∧ js[i].lease = 0 ∧ js[i].ready ≤ now
theorem AllR.new (n L : Nat) : AllR n 0 0 L (List.replicate n Job.zero) := by
  refine ⟨by simp, fun i h hk => absurd hk (by omega), fun i h _ => ?_⟩
  rw [List.getElem_replicate]
  exact ⟨rfl, rfl, Nat.le_refl _⟩
theorem AllR.first {n k now L : Nat} {js : List Job} (h : AllR n k now L js) (hk : k < n) : firstFree js now = some k := by
  unfold firstFree
  rw [List.findIdx?_eq_some_iff_getElem]
  have hl := h.len
  obtain ⟨a, b, c⟩ := h.free k (by omega) (Nat.le_refl _)
  refine ⟨by omega, by simp [Job.free, a, b, c], fun j hj => ?_⟩
  obtain ⟨a, b, c⟩ := h.out j (by omega) hj
  simp [Job.free, a, b]
theorem AllR.none {n now L : Nat} {js : List Job} (h : AllR n n now L js) : firstFree js now = none := by
  unfold firstFree
  rw [List.findIdx?_eq_none_iff]
  intro x hx
  obtain ⟨i, hi, rfl⟩ := List.getElem_of_mem hx
  obtain ⟨a, b, c⟩ := h.out i hi (by have := h.len; omega)
  simp [Job.free, a, b]
theorem AllR.lease {n k now L l m : Nat} {js : List Job} (h : AllR n k now L js) (hk : k < js.length) (hl : l ≠ 0) : AllR n (k + 1) now L (js.set k { js[k] with lease := l, deadline := now + L, tries := m }) := by
  refine ⟨by simp [h.len], fun i hi hik => ?_, fun i hi hik => ?_⟩
  · rw [List.getElem_set]
    split
    · exact ⟨(h.free k hk (Nat.le_refl _)).1, hl, Nat.le_refl _⟩
    · exact h.out i (by simpa using hi) (by omega)
  · rw [List.getElem_set_ne (by omega)]
    exact h.free i (by simpa using hi) (by omega)
theorem AllR.due {n now L : Nat} {js : List Job} (h : AllR n n now L js) : (dueTo js (now + L) js.length).length = n := by
  unfold dueTo
  rw [List.filter_eq_self.2]
  · simp [h.len]
  · intro i hi
    have hi' : i < js.length := List.mem_range.1 hi
    obtain ⟨a, b, c⟩ := h.out i hi' (by have := h.len; omega)
    rw [List.getElem?_eq_getElem hi']
    simp [Job.due, b, c]
theorem AllR.aged {n now L : Nat} {js : List Job} {t : Times} (h : AllR n n now L js) (ht : t.wait ≤ t.most) : AllR n 0 (now + L + t.most) L (agedTo js t (now + L) js.length) := by
  have e : agedTo js t (now + L) js.length = js.map (·.aged t (now + L)) := by simp [agedTo]
  rw [e]
  refine ⟨by simp [h.len], fun i hi hk => absurd hk (by omega), fun i hi _ => ?_⟩
  rw [List.getElem_map]
  have hi' : i < js.length := by simpa using hi
  obtain ⟨a, b, c⟩ := h.out i hi' (by have := h.len; omega)
  have d : js[i].due (now + L) = true := by simp [Job.due, b, c]
  simp only [Job.aged, d, if_pos, Job.over]
  refine ⟨a, trivial, ?_⟩
  have : waits t js[i].tries ≤ t.most := dbl_le ht _
  omega
theorem TimesAt.grown {w w' : World} {b : Nat} {t : Times} {row : Option Nat} (h : TimesAt w b t) (k : w.grownBy w' row) (h1 : some b ≠ row) : TimesAt w' b t := ⟨by rw [k.block b h.lt h1]; exact h.at_⟩
/-- What holds at the head of a round, and of a turn within it. -/
def AllW (w3 : World) (p B b0 n k N last : Nat) (t : Times) (js : List Job) (wr : World) : Prop :=
  AllR n k N t.lease js ∧ TabAt wr p B js t last ∧ Kept w3 wr p B ∧ TimesAt wr b0 t
set_option maxRecDepth 100000 in
set_option maxHeartbeats 1600000 in
theorem leaseAll (jobs : Nat) (t : Times) (rounds : Nat) (w : World) (hj : jobs ≤ 255) (hr : rounds ≤ 255) :
    Calls Try.prog 3 #[.int .u8 jobs, .agg #[.int .u64 t.lease, .int .u64 t.wait, .int .u64 t.most], .int .u8 rounds] w fun e w' => e = .returned (.bool true) ∧ Below w.heap.size w w' := by
  have hbx := TimesAt.new w t
  have HB0 := Hd.mk ((Below.refl w.heap.size w).alloc (Nat.le_refl _) (.cells #[.int .u64 t.lease, .int .u64 t.wait, .int .u64 t.most] 24))
  have HX0 := Hd.mk hbx
  have hmm := @run_makeMap Try.prog
  clear hbx
  go_enter Try.func3, Try.ntmps3
  go_wp2_with fail
  refine (awake_any _).mono ?_
  rintro e w1 ⟨rfl, hb⟩
  have HX1 := Hd.mk (HX0.out.below hb)
  have HB1 := Hd.mk (HB0.out.trans (hb.mono HB0.out.size))
  clear hb HX0 HB0
  obtain ⟨c0, c1, c2⟩ := And.intro HX1.out.c0 (And.intro HX1.out.c1 HX1.out.c2)
  go_wp2_with fail
  refine (times_any t _).mono ?_
  rintro e w2 ⟨rfl, hb⟩
  have HX2 := Hd.mk (HX1.out.below hb)
  have HB2 := Hd.mk (HB1.out.trans (hb.mono HB1.out.size))
  clear hb c0 c1 c2 HX1 HB1
  obtain ⟨c0, c1, c2⟩ := And.intro HX2.out.c0 (And.intro HX2.out.c1 HX2.out.c2)
  obtain ⟨f0, f1, f2⟩ := And.intro (HX2.out.free 0) (And.intro (HX2.out.free 1) (HX2.out.free 2))
  have hst := HX2.out.store (t' := t.small)
  have hbs := below_set (below_set (below_set HB2.out ⟨w.heap.size, 0, none⟩ (.int .u64 t.small.lease) (Nat.le_refl _)) ⟨w.heap.size, 1, none⟩ (.int .u64 t.small.wait) (Nat.le_refl _)) ⟨w.heap.size, 2, none⟩ (.int .u64 t.small.most) (Nat.le_refl _)
  have HX3 := Hd.mk hst
  have HB3 := Hd.mk hbs
  clear hst hbs
  go_wp2_with fail
  obtain ⟨s, hs⟩ : ∃ s, s = t.small := ⟨_, rfl⟩
  have hok := small_ok t
  rw [← hs] at hok HX3 HB3 ⊢
  clear hs c0 c1 c2 f0 f1 f2
  obtain ⟨y, hy⟩ : ∃ y, y = (((w2.setCell ⟨w.heap.size, 0, none⟩ (.int .u64 s.lease)).setCell ⟨w.heap.size, 1, none⟩ (.int .u64 s.wait)).setCell ⟨w.heap.size, 2, none⟩ (.int .u64 s.most)) := ⟨_, rfl⟩
  rw [← hy] at HX3 HB3 ⊢
  have HK := Hd.mk hok
  clear hy hok HX2 HB2
  obtain ⟨n, hn⟩ : ∃ n, n = 1 + jobs % 6 := ⟨_, rfl⟩
  have hn1 : 1 ≤ n := by omega
  have hn2 : n ≤ 6 := by omega
  rw [show (1 + (jobs : Int) % 6) = (n : Int) from by omega]
  clear hn
  refine (new_small n s 0 y hn1 (by omega) HK.out (by omega)).mono ?_
  rintro e w3 ⟨p, B, rfl, ht, hb, hp, hB⟩
  have hlt := HX3.out.lt
  have HX4 := Hd.mk (HX3.out.below hb)
  have HB4 : Hd (Below w.heap.size w w3 ∧ w.heap.size ≤ p ∧ w.heap.size ≤ B ∧ w.heap.size ≠ p ∧ w.heap.size ≠ B) := ⟨HB3.out.trans (hb.mono HB3.out.size), by omega, by omega, by omega, by omega⟩
  have HT := Hd.mk ht
  clear ht hb hp hB hlt HX3 HB3
  have hL2 := HK.out.l2
  have hM2 := HK.out.m2
  go_wp2_with fail
  go_loopw [10, 34] (fun v i wr => ∃ r N last : Nat, ∃ js, r ≤ rounds % 20 ∧ i = .int .u8 r ∧ v = .int .u64 N ∧ N ≤ r * 90 ∧ last ≤ r * 10 ∧ AllW w3 p B w.heap.size n 0 N last s js wr) (fun _ i _ => rounds % 20 - (intOf i).toNat)
  case atStart => exact ⟨0, 0, 0, _, Nat.zero_le _, rfl, rfl, Nat.zero_le _, Nat.zero_le _, AllR.new n _, HT.out, Kept.refl _ _ _, HX4.out⟩
  case round =>
    obtain ⟨r, N, last, js, hr1, rfl, rfl, hN, hlast, hA⟩ := hrel
    have HA := Hd.mk hA
    clear hA
    have hmb : rounds % 20 < 20 := Nat.mod_lt _ (by omega)
    by_cases hlt : r < rounds % 20
    · have hlt' : (r : Int) < (rounds : Int) % 20 := by omega
      go_wp2_with fail
      have hwr := HA.out.2.1.lt
      obtain ⟨bm, hbm⟩ : ∃ bm, bm = wr.heap.size := ⟨_, rfl⟩
      obtain ⟨wo, hwo⟩ : ∃ wo, wo = wr.alloc (.map #[] 0) := ⟨_, rfl⟩
      have hmap : BMap wo bm 0 (fun i => decide (i < 0)) := by rw [hbm, hwo]; exact BMap.new wr
      have hbw : Below wr.heap.size wr wo := by rw [hwo]; exact (Below.refl _ _).alloc (Nat.le_refl _) _
      rw [← hbm, ← hwo]
      have HA2 : Hd (AllW w3 p B w.heap.size n 0 N last s js wo) := ⟨HA.out.1, HA.out.2.1.old hbw, HA.out.2.2.1.trans (Kept.of_below hbw), HA.out.2.2.2.below hbw⟩
      have HM := Hd.mk hmap
      have hsz3 := HA.out.2.2.1.size
      have hb0 := HX4.out.lt
      have HN : Hd (bm ≠ p ∧ bm ≠ B ∧ w3.heap.size ≤ bm ∧ w.heap.size ≠ bm) := ⟨by omega, by omega, by omega, by omega⟩
      clear hmap hbw hbm hwo hwr hsz3 hb0
      go_loopw [38] (fun i wz => ∃ k last2 : Nat, ∃ js2, k ≤ n ∧ i = .int .i64 k ∧ last2 ≤ r * 10 + k ∧ AllW w3 p B w.heap.size n k N last2 s js2 wz ∧ BMap wz bm k (fun i => decide (i < k))) (fun i _ => n - (intOf i).toNat)
      case atStart => exact ⟨0, last, js, Nat.zero_le _, rfl, hlast, HA2.out, HM.out⟩
      case round =>
        obtain ⟨k, last2, js2, hk, rfl, hl2, hA3, hM3⟩ := hrel
        have HA3 := Hd.mk hA3
        have HM3 := Hd.mk hM3
        clear hA3 hM3
        by_cases hkn : k < n
        · go_wp2_with fail
          have hkl : k < js2.length := by rw [HA3.out.1.len]; exact hkn
          have hx := next_some p B js2 s last2 N k _ HA3.out.2.1 (by omega) (by omega) (HA3.out.1.first hkn) hkl
          refine hx.mono ?_
          clear hx
          rintro e w5 ⟨rfl, hkp, ht⟩
          have HA4 := Hd.mk (HA3.out.1.lease (l := last2 + 1) (m := min (js2[k].tries + 1) 64) hkl (by omega))
          have HW5 := Hd.mk (And.intro ht (And.intro (HA3.out.2.2.1.trans hkp) (HA3.out.2.2.2.kept hkp HB4.out.2.2.2.1 HB4.out.2.2.2.2)))
          have HM5 := Hd.mk (HM3.out.keptT hkp HN.out.1 HN.out.2.1)
          clear hkp ht
          have hlook := HM5.out.look (i := k) (by omega)
          simp only [Nat.lt_irrefl, decide_false] at hlook
          obtain ⟨w6, hput, hm6, hg6⟩ := HM5.out.put (i := k) (by omega) (by omega) true
          have HM6 := Hd.mk (hm6.congr (g := fun i => decide (i < k + 1)) (fun i hi => by
            by_cases e : i = k
            · subst e; simp
            · rw [if_neg e]; simp; omega))
          have HG6 := Hd.mk hg6
          clear hm6 hg6
          go_wp2
          go_roundw
          case rel => 
            refine ⟨k + 1, last2 + 1, _, by omega, by go_num, by omega, ⟨HA4.out, ?_, ?_, ?_⟩, HM6.out⟩
            · exact HW5.out.1.grown HG6.out (fun e => HN.out.1 (by cases e; rfl)) (fun e => HN.out.2.1 (by cases e; rfl))
            · exact HW5.out.2.1.grown HG6.out (fun q hq => by cases hq; exact HN.out.2.2.1)
            · exact HW5.out.2.2.grown HG6.out (fun e => HN.out.2.2.2 (by cases e; rfl))
          case measure => simp [intOf]; omega
        · obtain rfl : k = n := by omega
          have HNN := Hd.mk HA3.out.1.none
          go_wp2_with fail
          have hx := next_none p B js2 s last2 N _ HA3.out.2.1 (by omega) (by omega) HNN.out
          refine hx.mono ?_
          clear hx
          rintro e w5 ⟨rfl, hb5⟩
          have HW5 := Hd.mk (And.intro (HA3.out.2.1.old hb5) (And.intro (HA3.out.2.2.1.trans (Kept.of_below hb5)) (HA3.out.2.2.2.below hb5)))
          clear hb5
          have c0 := HW5.out.2.2.c0
          obtain ⟨L, hL⟩ : ∃ L, L = s.lease := ⟨_, rfl⟩
          obtain ⟨M, hM⟩ : ∃ M, M = s.most := ⟨_, rfl⟩
          have hx := expire_in p B js2 s last2 (N + L) w5 HW5.out.1 (by omega)
          have HD := Hd.mk HA3.out.1.due
          have HG := Hd.mk (HA3.out.1.aged HK.out.m1)
          rw [← hL] at c0 hL2 HD
          rw [← hL, ← hM] at HG
          rw [← hM] at hM2
          rw [HD.out, Int.natCast_add] at hx
          have HLM := Hd.mk (And.intro hL hM)
          clear hL hM
          go_wp2_with fail
          refine hx.mono ?_
          clear hx
          rintro e w6 ⟨hkp, ht, v, rfl, hown⟩
          obtain ⟨g, c, rfl, _⟩ := own_form hown (by omega)
          have HW6 := Hd.mk (And.intro ht (And.intro (HW5.out.2.1.trans hkp) (HW5.out.2.2.kept hkp HB4.out.2.2.2.1 HB4.out.2.2.2.2)))
          clear ht hkp hown c0
          have c2 := HW6.out.2.2.c2
          rw [← HLM.out.2] at c2
          have hnn : ((k : Int) != (k : Int)) = false := by simp
          go_wp2
          go_roundw
          case rel =>
            refine ⟨r + 1, N + L + M, last2, _, by omega, by go_num, by go_num, by omega, by omega, ?_, HW6.out⟩
            rw [← HLM.out.1]
            exact HG.out
          case measure => simp [intOf]; omega
    · have hlt' : ¬ (r : Int) < (rounds : Int) % 20 := by omega
      go_wp2
      go_ret
      exact ⟨rfl, HA.out.2.2.1.below HB4.out.1 HB4.out.2.1 HB4.out.2.2.1⟩
end Go.Proofs.Ytjampaggidelgaa
