/- No two leases have one number; no job is out twice. -/
import Derived.Test.YtjampaggidelgaaOnce0
import Derived.Deep.DeepCutAuto
import Derived.Deep.CutBlock
import Derived.Deep.LoopGhost
namespace Go.Proofs.Ytjampaggidelgaa
open Go.RowKit
set_option linter.unusedSimpArgs false
set_option linter.unusedVariables false
structure OnceW (w3 : World) (p B bo bd n cnt last : Nat) (t : Times) (js : List Job) (out done : Nat → Bool) (wr : World) : Prop where
  r : OnceR n js out done
  tab : TabAt wr p B js t last
  kept : Kept w3 wr p B
  mo : ∃ c, c ≤ cnt * 10 ∧ BMap wr bo c out
  md : ∃ c, c ≤ cnt * 10 ∧ BMap wr bd c done
theorem OnceW.below {w3 wr wz : World} {p B bo bd n cnt last : Nat} {t : Times} {js : List Job} {out done : Nat → Bool} (h : OnceW w3 p B bo bd n cnt last t js out done wr) (hb : Below wr.heap.size wr wz) : OnceW w3 p B bo bd n cnt last t js out done wz := by
  obtain ⟨c, h1, h2⟩ := h.mo
  obtain ⟨d, h3, h4⟩ := h.md
  exact ⟨h.r, h.tab.old hb, h.kept.trans (Kept.of_below hb), ⟨c, h1, h2.below hb⟩, ⟨d, h3, h4.below hb⟩⟩
theorem job_mod (a : Int) (n : Nat) (h1 : 1 ≤ n) (h2 : n ≤ 100) : ∃ jj : Nat, wrap64 ((IntKind.u64.wrap a).tmod n) = (jj : Int) ∧ jj < n := by
  have hU : ∃ U : Nat, IntKind.u64.wrap a = (U : Int) := ⟨(IntKind.u64.wrap a).toNat, by simp [IntKind.wrap, IntKind.bits, IntKind.signed]; omega⟩
  obtain ⟨U, hU⟩ := hU
  have hm : (U : Int).tmod n = ((U % n : Nat) : Int) := by rw [Int.tmod_eq_emod_of_nonneg (by omega)]; simp
  have hl : U % n < n := Nat.mod_lt _ (by omega)
  refine ⟨U % n, ?_, hl⟩
  rw [hU, hm]
  exact IntWalk.wrap64_in _ ⟨by omega, by omega⟩
theorem OnceW.later {w3 wr : World} {p B bo bd n cnt last : Nat} {t : Times} {js : List Job} {out done : Nat → Bool} (h : OnceW w3 p B bo bd n cnt last t js out done wr) : OnceW w3 p B bo bd n (cnt + 1) last t js out done wr := by
  obtain ⟨c, h1, h2⟩ := h.mo
  obtain ⟨d, h3, h4⟩ := h.md
  exact ⟨h.r, h.tab, h.kept, ⟨c, by omega, h2⟩, ⟨d, by omega, h4⟩⟩
set_option maxRecDepth 100000 in
set_option maxHeartbeats 1600000 in
theorem leaseOnce (jobs : Nat) (t : Times) (A : Option Addr) (xs : List ActV) (c : Nat) (w : World) (hj : jobs ≤ 255) (hA : Acts w A xs) (hc : xs.length ≤ 9223372036854775807) :
    Calls Try.prog 5 #[.int .u8 jobs, .agg #[.int .u64 t.lease, .int .u64 t.wait, .int .u64 t.most], .slice A xs.length c] w fun e w' => e = .returned (.bool true) ∧ Below w.heap.size w w' := by
  have HACT := Hd.mk hA
  clear hA
  have hbx := TimesAt.new w t
  have HB0 := Hd.mk ((Below.refl w.heap.size w).alloc (Nat.le_refl _) (.cells #[.int .u64 t.lease, .int .u64 t.wait, .int .u64 t.most] 24))
  have HX0 := Hd.mk hbx
  have hmm := @run_makeMap Try.prog
  clear hbx
  go_enter Try.func5, Try.ntmps5
  go_wp2_with fail
  refine (awake_any _).mono ?_
  rintro e w1 ⟨rfl, hb⟩
  have HX1 := Hd.mk (HX0.out.below hb)
  have HB1 := Hd.mk (HB0.out.trans (hb.mono HB0.out.size))
  clear hb HX0 HB0
  obtain ⟨c0, c1, c2⟩ := And.intro HX1.out.c0 (And.intro HX1.out.c1 HX1.out.c2)
  go_wp2_with fail
  refine (times_any t _).mono ?_
  rintro e w2 ⟨rfl, hb⟩
  have HB2 := Hd.mk (HB1.out.trans (hb.mono HB1.out.size))
  clear hb c0 c1 c2 HX1 HB1
  obtain ⟨s, hs⟩ : ∃ s, s = t.small := ⟨_, rfl⟩
  have hok := small_ok t
  rw [← hs] at hok ⊢
  have HK := Hd.mk hok
  clear hs hok
  obtain ⟨n, hn⟩ : ∃ n, n = 1 + jobs % 6 := ⟨_, rfl⟩
  have hn1 : 1 ≤ n := by omega
  have hn2 : n ≤ 6 := by omega
  go_wp2_with fail
  rw [show (1 + (jobs : Int) % 6) = (n : Int) from by omega]
  clear hn
  refine (new_small n s 0 w2 hn1 (by omega) HK.out (by omega)).mono ?_
  rintro e w3 ⟨p, B, rfl, ht, hb, hp, hB⟩
  have hsz := HB2.out.size
  have HB4 : Hd (Below w.heap.size w w3 ∧ w.heap.size ≤ p ∧ w.heap.size ≤ B) := ⟨HB2.out.trans (hb.mono HB2.out.size), by omega, by omega⟩
  have HT := Hd.mk ht
  clear ht hb hp hB hsz HB2
  go_wp2_with fail
  have hplt := HT.out.lt
  obtain ⟨bo, hbo⟩ : ∃ bo, bo = w3.heap.size := ⟨_, rfl⟩
  obtain ⟨bd, hbd⟩ : ∃ bd, bd = w3.heap.size + 1 := ⟨_, rfl⟩
  obtain ⟨w4, hw4⟩ : ∃ w4, w4 = (w3.alloc (.map #[] 0)).alloc (.map #[] 0) := ⟨_, rfl⟩
  have hstart : OnceW w3 p B bo bd n 0 0 s (List.replicate n Job.zero) (fun _ => false) (fun _ => false) w4 := by
    have h1 : Below w3.heap.size w3 (w3.alloc (.map #[] 0)) := (Below.refl _ _).alloc (Nat.le_refl _) _
    have h2 : Below (w3.alloc (.map #[] 0)).heap.size (w3.alloc (.map #[] 0)) w4 := by rw [hw4]; exact (Below.refl _ _).alloc (Nat.le_refl _) _
    have h3 : (w3.alloc (.map #[] 0)).heap.size = w3.heap.size + 1 := by simp
    refine ⟨OnceR.new n, (HT.out.old h1).old h2, Kept.of_below (h1.trans (h2.mono (by omega))), ⟨0, Nat.le_refl _, ?_⟩, ⟨0, Nat.le_refl _, ?_⟩⟩
    · rw [hbo]; exact (BMap.new w3).below h2
    · rw [hbd, hw4, ← h3]; exact BMap.new _
  rw [← hbd, ← hbo, ← hw4]
  have HS := Hd.mk hstart
  have HN : Hd (bo ≠ p ∧ bo ≠ B ∧ bd ≠ p ∧ bd ≠ B ∧ bo ≠ bd ∧ w3.heap.size ≤ bo ∧ w3.heap.size ≤ bd) := ⟨by omega, by omega, by omega, by omega, by omega, by omega, by omega⟩
  clear hstart hbo hbd hw4 hplt
  go_loopg [10, 11, 42] xs.length (fun gk v u i wr => ∃ k N last : Nat, ∃ js out done, k ≤ xs.length ∧ gk = xs.length - k ∧ i = .int .i64 k ∧ v = .int .u64 N ∧ u = .int .u64 last ∧ k ≤ 151 ∧ N ≤ k * 8 ∧ last ≤ k ∧ OnceW w3 p B bo bd n k last s js out done wr)
  case atStart => exact ⟨0, 0, 0, _, _, _, Nat.zero_le _, rfl, rfl, rfl, rfl, by omega, by omega, by omega, HS.out⟩
  case round =>
    obtain ⟨k, N, last, js, out, done, hk, hgk, rfl, rfl, rfl, hk151, hN, hlast, hR⟩ := hrel
    have HG := Hd.mk hgk
    have HR := Hd.mk hR
    clear hgk hR
    by_cases hlt : k < xs.length
    · obtain ⟨b, off, rfl, d0, d1, d2, d3, d4⟩ := (HACT.out.below (HR.out.kept.below HB4.out.1 HB4.out.2.1 HB4.out.2.2)).at_ k hlt
      have hfit := HACT.out.fits _ (List.getElem_mem hlt)
      obtain ⟨x, hx⟩ : ∃ x, x = xs[k] := ⟨_, rfl⟩
      rw [← hx] at d0 d1 d2 d3 d4 hfit
      clear hx
      obtain ⟨ak, as_, ar, aj, al⟩ := x
      obtain ⟨f1, f2, f3, f4, f5⟩ := hfit
      simp only at d0 d1 d2 d3 d4 f1 f2 f3 f4 f5
      have HF := Hd.mk (And.intro f2 f5)
      clear f2 f5
      by_cases h150 : 150 < k
      · go_wp2
        go_ret
        exact ⟨rfl, (HR.out.below ((Below.refl _ _).alloc (Nat.le_refl _) _)).kept.below HB4.out.1 HB4.out.2.1 HB4.out.2.2⟩
      · have HR2 := Hd.mk (HR.out.below ((Below.refl wr.heap.size wr).alloc (Nat.le_refl _) (.cells #[.int .u8 ak, .int .u64 as_, .bool ar, .int .i64 aj, .int .u64 al] 46)))
        obtain ⟨N2, hN2⟩ : ∃ N2, N2 = N + as_ % 9 := ⟨_, rfl⟩
        have e1 : (N : Int) + (as_ : Int) % 9 = (N2 : Int) := by omega
        have hN2b : N2 ≤ k * 8 + 8 := by omega
        obtain ⟨jj, hjj, hjn⟩ : ∃ jj : Nat, wrap64 ((IntKind.u64.wrap aj).tmod n) = (jj : Int) ∧ jj < n := job_mod aj n hn1 (by omega)
        obtain ⟨d, hd⟩ : ∃ d, d = ak % 4 := ⟨_, rfl⟩
        have e4 : (ak : Int) % 4 = (d : Int) := by omega
        have hd4 : d < 4 := by omega
        have HE := Hd.mk (And.intro e1 (And.intro hjj e4))
        clear hN2 e1 hjj hd e4
        go_upto_block 2 with fail
        rw [HE.out.1, HE.out.2.1, HE.out.2.2]
        clear d0 d1 d2 d3 d4
        obtain ⟨w5, hw5⟩ : ∃ w5, w5 = wr.alloc (.cells #[.int .u8 ak, .int .u64 as_, .bool ar, .int .i64 aj, .int .u64 al] 46) := ⟨_, rfl⟩
        rw [← hw5] at HR2 ⊢
        clear hw5
        go_cut [11] (fun u wz => ∃ last' : Nat, ∃ js' out' done', u = .int .u64 last' ∧ last' ≤ k + 1 ∧ OnceW w3 p B bo bd n (k + 1) last' s js' out' done' wz)
        case first =>
          have hjl : jj < js.length := by rw [HR2.out.r.len]; exact hjn
          by_cases hd01 : d = 0 ∨ d = 1
          · cases hff : firstFree js N2 with
            | none =>
              have HFF := Hd.mk hff
              clear hff
              have hfin : OnceW w3 p B bo bd n (k + 1) last s js out done w5 := HR2.out.later
              have HFIN := Hd.mk hfin
              clear hfin
              have hy := next_none p B js s last N2 w5 HR2.out.tab (by omega) (by omega) HFF.out
              rcases hd01 with rfl | rfl
              · go_wp2_with fail
                refine hy.mono ?_
                clear hy
                rintro e w6 ⟨rfl, hb⟩
                have HF2 := Hd.mk (HFIN.out.below hb)
                clear hb
                go_wp2_with fail
                go_meet
                exact ⟨last, js, out, done, rfl, by omega, HF2.out⟩
              · go_wp2_with fail
                refine hy.mono ?_
                clear hy
                rintro e w6 ⟨rfl, hb⟩
                have HF2 := Hd.mk (HFIN.out.below hb)
                clear hb
                go_wp2_with fail
                go_meet
                exact ⟨last, js, out, done, rfl, by omega, HF2.out⟩
            | some i =>
              obtain ⟨hi, ho, hdn⟩ := HR2.out.r.free hff
              have hin : i < n := by rw [← HR2.out.r.len]; exact hi
              have hy := next_some p B js s last N2 i w5 HR2.out.tab (by omega) (by omega) hff hi
              have HQ := Hd.mk (And.intro ho hdn)
              clear hff ho hdn
              have hfin : ∀ w6, Kept w5 w6 p B → TabAt w6 p B (js.set i { js[i] with lease := last + 1, deadline := N2 + s.lease, tries := min (js[i].tries + 1) 64 }) s (last + 1) →
                  (Instr.lookup 31 (.map (some bo)) (.int .i64 i) false).run Try.prog w6 = .ok (.bool false) w6 ∧ (Instr.lookup 31 (.map (some bd)) (.int .i64 i) false).run Try.prog w6 = .ok (.bool false) w6 ∧
                  ∃ w7, (Instr.mapUpdate 31 (.map (some bo)) (.int .i64 i) (.bool true)).run Try.prog w6 = .ok () w7 ∧ Hd (∃ js' out' done', OnceW w3 p B bo bd n (k + 1) (last + 1) s js' out' done' w7) := by
                intro w6 hk6 ht6
                obtain ⟨co, hco, hmo⟩ := HR2.out.mo
                obtain ⟨cd, hcd, hmd⟩ := HR2.out.md
                have hmo6 := hmo.keptT hk6 HN.out.1 HN.out.2.1
                have hmd6 := hmd.keptT hk6 HN.out.2.2.1 HN.out.2.2.2.1
                have l1 := hmo6.look (i := i) (by omega)
                have l2 := hmd6.look (i := i) (by omega)
                rw [HQ.out.1] at l1
                rw [HQ.out.2] at l2
                obtain ⟨w7, hput, hm7, hg7⟩ := hmo6.put (i := i) (by omega) (by omega) true
                refine ⟨l1, l2, w7, hput, ⟨_, _, _, HR2.out.r.lease hi HQ.out.2 (by omega), ht6.grown hg7 (fun e => HN.out.1 (by cases e; rfl)) (fun e => HN.out.2.1 (by cases e; rfl)), (HR2.out.kept.trans hk6).grown hg7 (fun r hr => by cases hr; exact HN.out.2.2.2.2.2.1),
                  ⟨co + 1, by omega, hm7⟩, ⟨cd, by omega, hmd6.kept hg7 (fun e => HN.out.2.2.2.2.1 (by cases e; rfl))⟩⟩⟩
              have HFIN := Hd.mk hfin
              clear hfin
              have hle : ¬ (last : Int) + 1 ≤ (last : Int) := by omega
              rcases hd01 with rfl | rfl
              · go_wp2_with fail
                refine hy.mono ?_
                clear hy
                rintro e w6 ⟨rfl, hk6, ht6⟩
                obtain ⟨l1, l2, w7, hput, hw7⟩ := HFIN.out w6 hk6 ht6
                clear hk6 ht6
                go_wp2_with fail
                go_meet
                obtain ⟨js', out', done', hw7⟩ := hw7.out
                exact ⟨last + 1, js', out', done', by go_num, by omega, hw7⟩
              · go_wp2_with fail
                refine hy.mono ?_
                clear hy
                rintro e w6 ⟨rfl, hk6, ht6⟩
                obtain ⟨l1, l2, w7, hput, hw7⟩ := HFIN.out w6 hk6 ht6
                clear hk6 ht6
                go_wp2_with fail
                go_meet
                obtain ⟨js', out', done', hw7⟩ := hw7.out
                exact ⟨last + 1, js', out', done', by go_num, by omega, hw7⟩
          · by_cases hd2 : d = 2
            · subst hd2
              clear hd01
              have hy := expire_in p B js s last N2 w5 HR2.out.tab (by omega)
              obtain ⟨L, hL⟩ : ∃ L, L = dueTo js N2 js.length := ⟨_, rfl⟩
              have hL6 : L.length ≤ 6 := by rw [hL]; have := dueTo_le js N2 js.length; have := HR2.out.r.len; omega
              have hdue : ∀ m (hm : m < L.length), L[m] < n ∧ (if L[m] ∈ L.take m then false else out L[m]) = true := by
                subst hL
                exact fun m hm => HR2.out.r.due hm
              have haged : OnceR n (agedTo js s N2 js.length) (fun i => if i ∈ L then false else out i) done := by rw [hL]; exact HR2.out.r.aged
              rw [← hL] at hy
              have HL := Hd.mk (And.intro hdue haged)
              clear hL hdue haged
              go_wp2_with fail
              refine hy.mono ?_
              clear hy
              rintro e w6 ⟨hk6, ht6, v, rfl, hown⟩
              obtain ⟨A6, c6, rfl, hrow, _, hAb, _⟩ := own_row hown
              have hAne : ∀ a, A6 = some a → some a.block ≠ some bo := fun a ha e => by
                have h1 := hAb a ha
                obtain ⟨co, _, hmo⟩ := HR2.out.mo
                have h2 := hmo.lt
                simp only [Option.some.injEq] at e
                omega
              have HW6 := Hd.mk (And.intro hk6 (And.intro ht6 (And.intro hrow hAne)))
              clear hk6 ht6 hrow hAne hAb hown
              have hstart : ∃ c', c' ≤ k * 10 + 0 ∧ BMap w6 bo c' (fun i => if i ∈ L.take 0 then false else out i) := by
                obtain ⟨co, hco, hmo⟩ := HR2.out.mo
                exact ⟨co, by omega, (hmo.keptT HW6.out.1 HN.out.1 HN.out.2.1).congr (fun i _ => by simp)⟩
              have HST := Hd.mk hstart
              clear hstart
              go_wp2_with fail
              go_loopw [110] (fun i wz => ∃ m : Nat, m ≤ L.length ∧ i = .int .i64 m ∧ w6.grownBy wz (some bo) ∧ ∃ c', c' ≤ k * 10 + m ∧ BMap wz bo c' (fun i => if i ∈ L.take m then false else out i)) (fun i _ => L.length - (intOf i).toNat)
              case atStart => exact ⟨0, Nat.zero_le _, rfl, ⟨rfl, rfl, rfl, Nat.le_refl _, fun _ _ _ => rfl⟩, HST.out⟩
              case round =>
                obtain ⟨m, hm, rfl, hg, c', hc', hmo⟩ := hrel
                have HG2 := Hd.mk hg
                have HM := Hd.mk hmo
                clear hg hmo
                by_cases hml : m < L.length
                · obtain ⟨hn', htrue⟩ := HL.out.1 m hml
                  obtain ⟨q, hq⟩ : ∃ q, q = L[m] := ⟨_, rfl⟩
                  obtain ⟨b6, o6, rfl, hcell⟩ := HW6.out.2.2.1 m (by simpa [idxV] using hml)
                  have hcell2 := HG2.out.cell hcell (show some b6 ≠ some bo from HW6.out.2.2.2 ⟨b6, o6, none⟩ rfl)
                  simp only [idxV, List.getElem_map] at hcell2
                  rw [← hq] at hcell2 hn' htrue
                  have l1 := HM.out.look (i := q) (by omega)
                  rw [htrue] at l1
                  obtain ⟨w7, hput, hm7, hg7⟩ := HM.out.put (i := q) (by omega) (by omega) false
                  have HM7 : Hd (BMap w7 bo (c' + 1) (fun i => if i ∈ L.take (m + 1) then false else out i)) := ⟨hm7.congr (fun i _ => by
                    rw [List.take_succ_eq_append_getElem hml, ← hq]
                    by_cases e : i = q
                    · subst e; simp
                    · simp [e])⟩
                  have HG7 : Hd (w6.grownBy w7 (some bo)) := ⟨⟨hg7.os.trans HG2.out.os, hg7.tape.trans HG2.out.tape, hg7.output.trans HG2.out.output, Nat.le_trans HG2.out.size hg7.size, fun a ha hne => (hg7.block a (Nat.lt_of_lt_of_le ha HG2.out.size) hne).trans (HG2.out.block a ha hne)⟩⟩
                  clear hm7 hg7 htrue hcell hq
                  go_wp2
                  go_roundw
                  case rel => exact ⟨m + 1, by omega, by go_num, HG7.out, c' + 1, by omega, HM7.out⟩
                  case measure => simp [intOf]; omega
                · obtain rfl : m = L.length := by omega
                  go_wp2_with fail
                  go_meet
                  obtain ⟨cd, hcd, hmd⟩ := HR2.out.md
                  refine ⟨last, agedTo js s N2 js.length, _, _, rfl, by omega, HL.out.2, HW6.out.2.1.grown HG2.out (fun e => HN.out.1 (by cases e; rfl)) (fun e => HN.out.2.1 (by cases e; rfl)), (HR2.out.kept.trans HW6.out.1).grown HG2.out (fun r hr => by cases hr; exact HN.out.2.2.2.2.2.1), ⟨c', by omega, ?_⟩, ⟨cd, by omega, (hmd.keptT HW6.out.1 HN.out.2.2.1 HN.out.2.2.2.1).kept HG2.out (fun e => HN.out.2.2.2.2.1 (by cases e; rfl))⟩⟩
                  have := HM.out
                  rw [List.take_length] at this
                  exact this
            · obtain rfl : d = 3 := by omega
              clear hd01 hd2
              have hy := done_in p B js s last jj w5 HR2.out.tab hjl
              obtain ⟨co, hco, hmo⟩ := HR2.out.mo
              obtain ⟨cd, hcd, hmd⟩ := HR2.out.md
              have hfin : ∀ w6 js', Kept w5 w6 p B → TabAt w6 p B js' s last → OnceR n js' (fun j => if j = jj then false else out j) (fun j => if j = jj then true else done j) →
                  (Instr.lookup 31 (.map (some bd)) (.int .i64 jj) false).run Try.prog w6 = .ok (.bool (js[jj]'hjl).done) w6 ∧
                  ∃ w7 w8, (Instr.mapUpdate 31 (.map (some bo)) (.int .i64 jj) (.bool false)).run Try.prog w6 = .ok () w7 ∧ (Instr.mapUpdate 31 (.map (some bd)) (.int .i64 jj) (.bool true)).run Try.prog w7 = .ok () w8 ∧
                    Hd (∃ js' out' done', OnceW w3 p B bo bd n (k + 1) last s js' out' done' w8) := by
                intro w6 js' hk6 ht6 hr6
                have hmo6 := hmo.keptT hk6 HN.out.1 HN.out.2.1
                have hmd6 := hmd.keptT hk6 HN.out.2.2.1 HN.out.2.2.2.1
                have l2 := hmd6.look (i := jj) (by omega)
                rw [HR2.out.r.d jj hjl] at l2
                obtain ⟨w7, hput, hm7, hg7⟩ := hmo6.put (i := jj) (by omega) (by omega) false
                have hmd7 := hmd6.kept hg7 (fun e => HN.out.2.2.2.2.1 (by cases e; rfl))
                obtain ⟨w8, hput8, hm8, hg8⟩ := hmd7.put (i := jj) (by omega) (by omega) true
                refine ⟨l2, w7, w8, hput, hput8, ⟨js', _, _, hr6, (ht6.grown hg7 (fun e => HN.out.1 (by cases e; rfl)) (fun e => HN.out.2.1 (by cases e; rfl))).grown hg8 (fun e => HN.out.2.2.1 (by cases e; rfl)) (fun e => HN.out.2.2.2.1 (by cases e; rfl)),
                  ((HR2.out.kept.trans hk6).grown hg7 (fun r hr => by cases hr; exact HN.out.2.2.2.2.2.1)).grown hg8 (fun r hr => by cases hr; exact HN.out.2.2.2.2.2.2),
                  ⟨co + 1, by omega, hm7.kept hg8 (fun e => HN.out.2.2.2.2.1 (by cases e; rfl))⟩, ⟨cd + 1, by omega, hm8⟩⟩⟩
              have HFIN := Hd.mk hfin
              clear hfin hmo hmd
              cases hdn : (js[jj]'hjl).done with
              | true =>
                simp only [if_pos hdn] at hy
                have hag := HR2.out.r.again hjl hdn
                have HAG := Hd.mk hag
                have HDN := Hd.mk hdn
                clear hag hdn
                go_wp2_with fail
                refine hy.mono ?_
                clear hy
                rintro e w6 ⟨hk6, rfl, ht6⟩
                obtain ⟨l2, w7, w8, hp7, hp8, hw8⟩ := HFIN.out w6 js hk6 ht6 HAG.out
                rw [HDN.out] at l2
                clear hk6 ht6
                go_wp2_with fail
                go_meet
                obtain ⟨js', out', done', hw8⟩ := hw8.out
                exact ⟨last, js', out', done', rfl, by omega, hw8⟩
              | false =>
                simp only [hdn, Bool.false_eq_true, if_false] at hy
                have HAG := Hd.mk (HR2.out.r.ended hjl)
                have HDN := Hd.mk hdn
                clear hdn
                go_wp2_with fail
                refine hy.mono ?_
                clear hy
                rintro e w6 ⟨hk6, rfl, ht6⟩
                obtain ⟨l2, w7, w8, hp7, hp8, hw8⟩ := HFIN.out w6 _ hk6 ht6 HAG.out
                rw [HDN.out] at l2
                clear hk6 ht6
                go_wp2_with fail
                go_meet
                obtain ⟨js', out', done', hw8⟩ := hw8.out
                exact ⟨last, js', out', done', rfl, by omega, hw8⟩
        case rest =>
          obtain ⟨last', js', out', done', rfl, hl', hW⟩ := hcut
          have HW := Hd.mk hW
          clear hW HR HR2
          go_wp2_with fail
          refine (jobs_any p B js' s last' wc HW.out.tab).mono ?_
          rintro e w7 ⟨hb, v, rfl, hj⟩
          have hlen := HW.out.r.len
          obtain ⟨g, cg, rfl, hg, hcg, hcell⟩ := hj.form (by omega)
          have HJ := Hd.mk hcell
          have HW7 := Hd.mk (HW.out.below hb)
          have hg7 : g < w7.heap.size := World.block_lt_of_cell? w7 ⟨g, 0 * 5 + 0, none⟩ (hcell 0 (by omega) 0 (by omega))
          rw [hlen] at hcg
          rw [hlen]
          have HLEN := Hd.mk hlen
          clear hb hj hcell hlen hg
          go_wp2_with fail
          go_loopw [124] (fun i wz => ∃ m : Nat, m ≤ n ∧ i = .int .i64 m ∧ Below w7.heap.size w7 wz) (fun i _ => n - (intOf i).toNat)
          case atStart => exact ⟨0, Nat.zero_le _, rfl, Below.refl _ _⟩
          case round =>
            obtain ⟨m, hm, rfl, hbz⟩ := hrel
            have HBZ := Hd.mk hbz
            clear hbz
            by_cases hmn : m < n
            · have hml : m < js'.length := by rw [HLEN.out]; exact hmn
              obtain ⟨jb, jl, jd, jt, jr, hj⟩ : ∃ jb jl jd jt jr, js'[m] = ⟨jb, jl, jd, jt, jr⟩ := ⟨_, _, _, _, _, rfl⟩
              have hc0 : ∀ q (hq : q < 5), wr.cell? ⟨g, m * 5 + q, none⟩ = (Job.cells ⟨jb, jl, jd, jt, jr⟩)[q]? := fun q hq => by
                rw [← hj, ← HJ.out m hml q hq]
                exact HBZ.out.cell (p := ⟨g, m * 5 + q, none⟩) hg7
              have d0 : wr.cell? ⟨g, m * 5, none⟩ = some (.bool jb) := hc0 0 (by omega)
              have d1 : wr.cell? ⟨g, m * 5 + 1, none⟩ = some (.int .u64 jl) := hc0 1 (by omega)
              have d2 : wr.cell? ⟨g, m * 5 + 2, none⟩ = some (.int .u64 jd) := hc0 2 (by omega)
              have d3 : wr.cell? ⟨g, m * 5 + 3, none⟩ = some (.int .i64 jt) := hc0 3 (by omega)
              have d4 : wr.cell? ⟨g, m * 5 + 4, none⟩ = some (.int .u64 jr) := hc0 4 (by omega)
              have HZ : Hd (OnceW w3 p B bo bd n (k + 1) last' s js' out' done' (wr.alloc (.cells #[.bool jb, .int .u64 jl, .int .u64 jd, .int .i64 jt, .int .u64 jr] 40))) :=
                ⟨(HW7.out.below HBZ.out).below ((Below.refl _ _).alloc (Nat.le_refl _) _)⟩
              have hdm : done' m = jb := by rw [HZ.out.r.d m hml, hj]
              have hom : out' m = (jl != 0) := by rw [HZ.out.r.o m hml, hj]
              obtain ⟨co, _, hmo⟩ := HZ.out.mo
              obtain ⟨cd, _, hmd⟩ := HZ.out.md
              have l1 := hmo.look (i := m) (by omega)
              have l2 := hmd.look (i := m) (by omega)
              rw [hom] at l1
              rw [hdm] at l2
              have HBZ2 : Hd (Below w7.heap.size w7 (wr.alloc (.cells #[.bool jb, .int .u64 jl, .int .u64 jd, .int .i64 jt, .int .u64 jr] 40))) := ⟨HBZ.out.alloc HBZ.out.size _⟩
              clear hc0 hj hdm hom hmo hmd
              by_cases hj0 : jl = 0
              · have h0 : (jl != 0) = false := by simp [hj0]
                have h1 : ((jl : Int) != 0) = false := by simp [hj0]
                rw [h0] at l1
                clear h0 hj0
                cases jb
                all_goals
                  go_wp2
                  go_roundw
                  case rel => exact ⟨m + 1, by omega, by go_num, HBZ2.out⟩
                  case measure => simp [intOf]; omega
              · have h0 : (jl != 0) = true := by simp [hj0]
                have h1 : ((jl : Int) != 0) = true := by simp [hj0]
                rw [h0] at l1
                clear h0 hj0
                cases jb
                all_goals
                  go_wp2
                  go_roundw
                  case rel => exact ⟨m + 1, by omega, by go_num, HBZ2.out⟩
                  case measure => simp [intOf]; omega
            · obtain rfl : m = n := by omega
              go_wp2
              go_roundg (xs.length - (k + 1))
              case measure => have := HG.out; omega
              case rel => exact ⟨k + 1, N2, last', js', out', done', by omega, rfl, by go_num, rfl, rfl, by omega, by omega, hl', HW7.out.below HBZ.out⟩
    · obtain rfl : k = xs.length := by omega
      go_wp2
      go_ret
      exact ⟨rfl, HR.out.kept.below HB4.out.1 HB4.out.2.1 HB4.out.2.2⟩
end Go.Proofs.Ytjampaggidelgaa
