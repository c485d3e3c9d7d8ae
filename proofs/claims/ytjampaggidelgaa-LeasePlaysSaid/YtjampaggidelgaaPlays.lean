/- Calls in any order, at any times: the program's table and the document's answer alike. -/
import Derived.Test.YtjampaggidelgaaRefTimes
import Derived.Test.YtjampaggidelgaaOnce
import Derived.Deep.QuietTactic
import Derived.BigQuiet
namespace Go.Proofs.Ytjampaggidelgaa
open Go.RowKit
set_option linter.unusedSimpArgs false
set_option linter.unusedVariables false
structure PlayW (w : World) (p B q C n last : Nat) (t : Times) (js : List Job) (wr : World) : Prop where
  tab : TabAt wr p B js t last
  ref : RefAt wr q C js t last
  below : Below w.heap.size w wr
  len : js.length = n
theorem PlayW.old {w wr wz : World} {p B q C n last : Nat} {t : Times} {js : List Job} (h : PlayW w p B q C n last t js wr) (hb : Below wr.heap.size wr wz) : PlayW w p B q C n last t js wz :=
  ⟨h.tab.old hb, h.ref.old hb, h.below.trans (hb.mono h.below.size), h.len⟩
/-- Where the four blocks lie. -/
structure Four (w : World) (p B q C : Nat) : Prop where
  qp : q ≠ p
  qB : q ≠ B
  Cp : C ≠ p
  CB : C ≠ B
  p0 : w.heap.size ≤ p
  B0 : w.heap.size ≤ B
  q0 : w.heap.size ≤ q
  C0 : w.heap.size ≤ C
theorem ref_next_none (p B : Nat) (js : List Job) (t : Times) (last now : Nat) (w : World) (h : RefAt w p B js t last) (hn : now ≤ 1099511627776) (hl : last < 18446744073709551615) (hf : firstFree js now = none) :
    Calls Try.prog 19 #[.pointer (some ⟨p, 0, none⟩), .int .u64 now] w fun e w' => e = .returned (.tuple #[.int .i64 0, .int .u64 0, .bool false]) ∧ Below w.heap.size w w' :=
  (ref_next p B js t last now w h hn hl).mono fun e w' h => by unfold NextPost at h; rw [hf] at h; exact h
theorem ref_next_some (p B : Nat) (js : List Job) (t : Times) (last now i : Nat) (w : World) (h : RefAt w p B js t last) (hn : now ≤ 1099511627776) (hl : last < 18446744073709551615) (hf : firstFree js now = some i) (hi : i < js.length) :
    Calls Try.prog 19 #[.pointer (some ⟨p, 0, none⟩), .int .u64 now] w fun e w' => e = .returned (.tuple #[.int .i64 i, .int .u64 (last + 1), .bool true]) ∧ Kept w w' p B ∧ RefAt w' p B (js.set i { js[i] with lease := last + 1, deadline := now + t.lease, tries := min (js[i].tries + 1) 64 }) t (last + 1) :=
  (ref_next p B js t last now w h hn hl).mono fun e w' h => by
    unfold NextPost at h
    rw [hf] at h
    exact ⟨h.1, h.2.1, h.2.2.2⟩
section
variable {w wr w6 w7 : World} {p B q C n last last2 : Nat} {t : Times} {js js2 : List Job}
theorem PlayW.refMid (h : PlayW w p B q C n last t js wr) (F : Four w p B q C) (k1 : Kept wr w6 p B) : RefAt w6 q C js t last := h.ref.kept k1 F.qp F.qB F.Cp F.CB
theorem PlayW.both (h : PlayW w p B q C n last t js wr) (F : Four w p B q C) (k1 : Kept wr w6 p B) (t1 : TabAt w6 p B js2 t last2) (k2 : Kept w6 w7 q C) (r2 : RefAt w7 q C js2 t last2) (hl : js2.length = js.length) : PlayW w p B q C n last2 t js2 w7 :=
  ⟨t1.kept k2 (Ne.symm F.qp) (Ne.symm F.Cp) (Ne.symm F.qB) (Ne.symm F.CB), r2, k2.below (k1.below h.below F.p0 F.B0) F.q0 F.C0, hl.trans h.len⟩
end
structure InRange (n : Int) (t : Times) (last : Nat) : Prop where
  n1 : -9223372036854775808 ≤ n
  n2 : n ≤ 9223372036854775807
  t1 : t.lease < 18446744073709551616
  t2 : t.wait < 18446744073709551616
  t3 : t.most < 18446744073709551616
  l : last < 18446744073709551616
def PlayIn (w : World) (b : Nat) (j l : Value) (wz : World) : Prop := ∃ n : Int, ∃ t : Times, ∃ last : Nat, j = .int .i64 n ∧ l = .int .u64 last ∧ TimesAt wz b t ∧ Below w.heap.size w wz ∧ InRange n t last
theorem below_drewN (w : World) (n : Nat) : Below w.heap.size w (w.drewN n) := ⟨rfl, rfl, rfl, Nat.le_refl _, fun _ _ => rfl⟩
def MakeG (w0 : World) (n : Nat) (t : Times) (l : Nat) (i : Nat) (v : Value) (w' : World) : Prop := match i with
  | 0 => v = .int .i64 n
  | 1 => ∃ C, v = .slice (some ⟨C, 0, none⟩) n n ∧ w'.heap[C]? = some (.cells (flat (List.replicate n Job.zero)).toArray 40 (0, 0)) ∧ w0.heap.size ≤ C
  | 2 => v = .agg #[.int .u64 t.lease, .int .u64 t.wait, .int .u64 t.most]
  | 3 => v = .int .u64 l
  | 4 => ∃ C, v = .agg (head C n t l) ∧ w'.heap[C]? = some (.cells (flat (List.replicate n Job.zero)).toArray 40 (0, 0)) ∧ w0.heap.size ≤ C
  | _ => ∃ q C, v = .pointer (some ⟨q, 0, none⟩) ∧ w'.heap[q]? = some (.cells (head C n t l) 55 (0, 0)) ∧ w'.heap[C]? = some (.cells (flat (List.replicate n Job.zero)).toArray 40 (0, 0)) ∧ q ≠ C ∧ w0.heap.size ≤ C ∧ w0.heap.size ≤ q
theorem MakeG.stable {w0 : World} {n : Nat} {t : Times} {l : Nat} (i : Nat) (v : Value) (w1 w2 : World) (h1 : MakeG w0 n t l i v w1) (h2 : Below w1.heap.size w1 w2) : MakeG w0 n t l i v w2 := by
  have keep : ∀ {b : Nat} {o : Obj}, w1.heap[b]? = some o → w2.heap[b]? = some o := fun h => by rw [h2.block _ (Array.getElem?_eq_some_iff.1 h).1]; exact h
  unfold MakeG at h1 ⊢
  match i, h1 with
  | 0, h1 | 2, h1 | 3, h1 => exact h1
  | 1, ⟨C, e, hp, hs⟩ => exact ⟨C, e, keep hp, hs⟩
  | 4, ⟨C, e, hp, hs⟩ => exact ⟨C, e, keep hp, hs⟩
  | _ + 5, ⟨q, C, e, hp, hq, hs⟩ => exact ⟨q, C, e, keep hp, keep hq, hs⟩
def SameG (p q C n : Nat) (js : List Job) (i : Nat) (v : Value) (w' : World) : Prop := match i with
  | 0 => v = .pointer (some ⟨p, 0, none⟩)
  | 1 => ∃ g, (∃ c, v = .slice (some ⟨g, 0, none⟩) n c ∧ n ≤ c) ∧ g < w'.heap.size ∧ JobsIn w' g js
  | 2 | 3 | 4 => v = .pointer (some ⟨q, 0, none⟩)
  | 5 => v = .slice (some ⟨C, 0, none⟩) n n
  | 6 => v = .bool true
  | _ => v = .bool false
theorem SameG.stable {p q C n : Nat} {js : List Job} (i : Nat) (v : Value) (w1 w2 : World) (h1 : SameG p q C n js i v w1) (h2 : Below w1.heap.size w1 w2) : SameG p q C n js i v w2 := by
  unfold SameG at h1 ⊢
  match i, h1 with
  | 0, h1 | 2, h1 | 3, h1 | 4, h1 | 5, h1 | 6, h1 | _ + 7, h1 => exact h1
  | 1, ⟨g, e, hg, hj⟩ => exact ⟨g, e, Nat.lt_of_lt_of_le hg h2.size, fun i hi k hk => by rw [← hj i hi k hk]; exact h2.cell (p := ⟨g, i * 5 + k, none⟩) hg⟩
set_option maxRecDepth 100000 in
set_option maxHeartbeats 12000000 in
theorem leasePlays (jobs : Int) (t : Times) (raw : Bool) (last : Nat) (A : Option Addr) (xs : List ActV) (c : Nat) (w : World) (hin : InRange jobs t last) (hA : Acts w A xs) (hc : xs.length ≤ 9223372036854775807) :
    Calls Try.prog 7 #[.int .i64 jobs, .agg #[.int .u64 t.lease, .int .u64 t.wait, .int .u64 t.most], .bool raw, .int .u64 last, .slice A xs.length c] w fun e w' => e = .returned (.bool true) ∧ Below w.heap.size w w' := by
  have HACT := Hd.mk hA
  have HIN := Hd.mk hin
  clear hA hin
  have hbx := TimesAt.new w t
  have HB0 := Hd.mk ((Below.refl w.heap.size w).alloc (Nat.le_refl _) (.cells #[.int .u64 t.lease, .int .u64 t.wait, .int .u64 t.most] 24))
  have HX0 := Hd.mk hbx
  clear hbx
  go_enter Try.func7, Try.ntmps7
  go_wp2_with fail
  refine (awake_any _).mono ?_
  rintro e w1 ⟨rfl, hb⟩
  have HX1 := Hd.mk (HX0.out.below hb)
  have HB1 := Hd.mk (HB0.out.trans (hb.mono HB0.out.size))
  clear hb HX0 HB0
  go_upto_if 29 with fail
  go_cut [0, 3] (fun j l wz => PlayIn w w.heap.size j l wz)
  case first =>
    as_aux_lemma =>
      cases raw with
      | true =>
        go_wp2_with fail
        go_meet
        exact ⟨jobs, t, last, rfl, rfl, HX1.out, HB1.out, HIN.out⟩
      | false =>
        obtain ⟨c0, c1, c2⟩ := And.intro HX1.out.c0 (And.intro HX1.out.c1 HX1.out.c2)
        have hlb := HIN.out.l
        go_wp2_with fail
        refine (times_any t _).mono ?_
        rintro e w2 ⟨rfl, hb⟩
        have HX2 := Hd.mk (HX1.out.below hb)
        have HB2 := Hd.mk (HB1.out.trans (hb.mono HB1.out.size))
        clear hb c0 c1 c2 HX1 HB1
        obtain ⟨c0, c1, c2⟩ := And.intro HX2.out.c0 (And.intro HX2.out.c1 HX2.out.c2)
        obtain ⟨f0, f1, f2⟩ := And.intro (HX2.out.free 0) (And.intro (HX2.out.free 1) (HX2.out.free 2))
        have hst := HX2.out.store (t' := t.small)
        have hbs := below_set (below_set (below_set HB2.out ⟨w.heap.size, 0, none⟩ (.int .u64 t.small.lease) (Nat.le_refl _)) ⟨w.heap.size, 1, none⟩ (.int .u64 t.small.wait) (Nat.le_refl _)) ⟨w.heap.size, 2, none⟩ (.int .u64 t.small.most) (Nat.le_refl _)
        have HX3 := Hd.mk hst
        have HB3 := Hd.mk hbs
        clear hst hbs
        go_wp2_with fail
        go_meet
        obtain ⟨jj, hjj, hj5⟩ := job_mod jobs 5 (by omega) (by omega)
        have e1 : wrap64 (1 + wrap64 ((IntKind.u64.wrap jobs).tmod 5)) = ((1 + jj : Nat) : Int) := by
          have hjj' : wrap64 ((IntKind.u64.wrap jobs).tmod 5) = (jj : Int) := hjj
          rw [hjj', IntWalk.wrap64_in _ ⟨by omega, by omega⟩]
          simp
        rw [e1]
        have hok := small_ok t
        exact ⟨_, t.small, last % 10, rfl, by simp, HX3.out, HB3.out, ⟨by omega, by omega, by have := hok.l2; omega, by have := hok.w2; omega, by have := hok.m2; omega, by omega⟩⟩
  case rest =>
    obtain ⟨n, s, l, rfl, rfl, hx, hb, hin⟩ := hcut
    have HX2 := Hd.mk hx
    have HB2 := Hd.mk hb
    have HIN2 := Hd.mk hin
    clear hx hb hin HX1 HB1 HIN
    obtain ⟨c0, c1, c2⟩ := And.intro HX2.out.c0 (And.intro HX2.out.c1 HX2.out.c2)
    by_cases hr : n < 1 ∨ 16 < n
    · as_aux_lemma =>
        have hy := new_bad n s l wc hr
        have HRR := Hd.mk hr
        clear hr
        go_wp2_with fail
        refine hy.mono ?_
        clear hy
        rintro e w3 ⟨rfl, hb⟩
        have HX3 := Hd.mk (HX2.out.below hb)
        have HB3 := Hd.mk (HB2.out.trans (hb.mono HB2.out.size))
        clear hb c0 c1 c2
        obtain ⟨c0, c1, c2⟩ := And.intro HX3.out.c0 (And.intro HX3.out.c1 HX3.out.c2)
        have hy := ref_times_range n s w3 HRR.out
        go_wp2_with fail
        refine hy.mono ?_
        clear hy
        rintro e w4 ⟨rfl, hb⟩
        have HB4 := Hd.mk (HB3.out.trans (hb.mono HB3.out.size))
        clear hb c0 c1 c2
        go_wp2
        go_ret
        exact ⟨rfl, HB4.out⟩
    · obtain ⟨m, rfl⟩ : ∃ m : Nat, n = m := ⟨n.toNat, by omega⟩
      have hm1 : 1 ≤ m := by omega
      have hm2 : m ≤ 16 := by omega
      clear hr
      cases hbt : badT s with
      | true =>
        have hy := new_time m s l wc hm1 hm2 hbt
        have HTV : Hd (timesV s = 62) := ⟨by unfold timesV; rw [hbt]; rfl⟩
        clear hbt
        go_wp2_with fail
        refine hy.mono ?_
        clear hy
        rintro e w3 ⟨rfl, hb⟩
        have HX3 := Hd.mk (HX2.out.below hb)
        have HB3 := Hd.mk (HB2.out.trans (hb.mono HB2.out.size))
        clear hb c0 c1 c2
        obtain ⟨c0, c1, c2⟩ := And.intro HX3.out.c0 (And.intro HX3.out.c1 HX3.out.c2)
        have hy := ref_times m s w3 hm1 hm2
        rw [HTV.out] at hy
        go_wp2_with fail
        refine hy.mono ?_
        clear hy
        rintro e w4 ⟨rfl, hb⟩
        have HB4 := Hd.mk (HB3.out.trans (hb.mono HB3.out.size))
        clear hb c0 c1 c2
        go_wp2
        go_ret
        exact ⟨rfl, HB4.out⟩
      | false =>
        have hbb := hbt
        simp [badT] at hbb
        obtain ⟨⟨⟨hl, hw⟩, hmm⟩, hwm⟩ := hbb
        have hy := new_ok m s l wc hm1 hm2 hl hw hmm (by omega) HIN2.out.l
        have HTV : Hd (timesV s = 0) := ⟨by unfold timesV; rw [hbt]; rfl⟩
        clear hbt hl hw hmm hwm
        go_wp2_with fail
        refine hy.mono ?_
        clear hy
        rintro e w3 ⟨p, B, rfl, ht, hb, hp, hB⟩
        have HX3 := Hd.mk (HX2.out.below hb)
        have HB3 := Hd.mk (HB2.out.trans (hb.mono HB2.out.size))
        have HPB : Hd (w.heap.size ≤ p ∧ w.heap.size ≤ B ∧ TabAt w3 p B (List.replicate m Job.zero) s l) := ⟨by have := HB2.out.size; omega, by have := HB2.out.size; omega, ht⟩
        clear hb c0 c1 c2 hp hB ht
        obtain ⟨c0, c1, c2⟩ := And.intro HX3.out.c0 (And.intro HX3.out.c1 HX3.out.c2)
        have hy := ref_times m s w3 hm1 hm2
        rw [HTV.out] at hy
        go_wp2_with fail
        refine hy.mono ?_
        clear hy
        rintro e w4 ⟨rfl, hb⟩
        have HX4 := Hd.mk (HX3.out.below hb)
        have HB4 := Hd.mk (HB3.out.trans (hb.mono HB3.out.size))
        have HP4 : Hd (w.heap.size ≤ p ∧ w.heap.size ≤ B ∧ TabAt w4 p B (List.replicate m Job.zero) s l) := ⟨HPB.out.1, HPB.out.2.1, HPB.out.2.2.old hb⟩
        clear hb c0 c1 c2 HPB HX2 HX3 HB2 HB3
        go_wp2_with fail
        refine wp_region_rely (by kernel_rfl) (by kernel_rfl) (MakeG w4 m s l)
          (fun w1 w2 => Below w1.heap.size w1 w2) (Below.refl _ _) (fun w1 w2 w3 h1 h2 => h1.trans (h2.mono h1.size)) MakeG.stable (n := 192) (by kernel_rfl) rfl ?_ ?_
        · simp only [Obl]
          refine ⟨?_, ?_, ?_, ?_, ?_, ?_, ?_, trivial⟩
          all_goals
            intro vs w' hR hK
            simp [depsOf, Region.binds, putsOn, dstOf, Act.put, Known, seen, MakeG] at hK ⊢
          case refine_1 | refine_4 => go_wp2; exact ⟨rfl, rfl, Below.refl _ _, rfl⟩
          case refine_2 =>
            have hsz := (below_undrew hR).size
            have hnn : (m : Int) ≤ 16 := by omega
            have hmk := make_jobs m hm2 w'
            go_wp2
            exact ⟨rfl, rfl, (Below.refl _ _).alloc (Nat.le_refl _) _, _, rfl, heap_new _ _, hsz⟩
          case refine_3 =>
            have hx := HX4.out.below (below_undrew hR)
            obtain ⟨c0, c1, c2⟩ := And.intro hx.c0 (And.intro hx.c1 hx.c2)
            clear hx
            go_wp2
            exact ⟨rfl, rfl, Below.refl _ _, rfl⟩
          case refine_5 =>
            obtain ⟨⟨C, hC, hp, hs⟩, h2, h3⟩ := hK
            have HP := Hd.mk hp
            clear hp
            go_wp2
            exact ⟨rfl, rfl, Below.refl _ _, C, rfl, HP.out, hs⟩
          case refine_6 =>
            obtain ⟨C, hC, hp, hs⟩ := hK
            have hsz := (below_undrew hR).size
            have HP := Hd.mk hp
            clear hp
            simp only [head] at hC
            go_wp2
            refine ⟨rfl, rfl, (Below.refl _ _).alloc (Nat.le_refl _) _, _, rfl, C, heap_new _ _, ?_, ?_, hs, hsz⟩
            · rw [heap_old _ _ _ (Array.getElem?_eq_some_iff.1 HP.out).1]
              exact HP.out
            · have := (Array.getElem?_eq_some_iff.1 HP.out).1
              omega
          case refine_7 =>
            have h5 := hK.1
            clear hK
            go_wp2
            exact ⟨rfl, rfl, Below.refl _ _, h5⟩
        · intro vs w' hR hK
          simp [Known, List.range, List.range.loop, MakeG] at hK
          obtain ⟨-, -, -, -, -, -, ⟨q, h6, C, hq, hCC, hne, hsC, hsq⟩⟩ := hK
          have hb := below_undrew hR
          have hplt := HP4.out.2.2.lt
          have hbad : badT s = false := by have := HTV.out; unfold timesV at this; cases hx : badT s <;> simp [hx] at this ⊢
          have hq4 : RefAt w' q C (List.replicate m Job.zero) s l := by
            simp [badT, bad] at hbad
            exact { head := by rw [List.length_replicate]; exact hq, body := hCC, ne := hne, small := by rw [List.length_replicate]; exact hm2, fits := (fun j hj => by rw [(List.mem_replicate.1 hj).2]; exact ⟨pos64, pos64, Nat.zero_le _, pos64⟩), tl := by omega, tw := by omega, tm := by omega, lastFits := HIN2.out.l }
          have hplay : PlayW w p B q C m l s (List.replicate m Job.zero) w' := ⟨HP4.out.2.2.old hb, hq4, HB4.out.trans (hb.mono HB4.out.size), by simp⟩
          have hsz4 := HB4.out.size
          have hp0 := HP4.out.1
          have hB0 := HP4.out.2.1
          have HFOUR : Hd (Four w p B q C) := ⟨by omega, by omega, by omega, by omega, by omega, by omega, by omega, by omega⟩
          have HPL := Hd.mk hplay
          clear hq hCC hne hsC hsq hR hb hplt hbad hq4 hplay hsz4 hp0 hB0 HX4 HB4 HP4 HTV
          simp [putsOn, dstOf, Act.put, List.range, List.range.loop]
          rw [h6]
          go_wp2_with fail
          go_loopg [15, 66] xs.length (fun gk v i wr => ∃ k N last' : Nat, ∃ js, k ≤ xs.length ∧ gk = xs.length - k ∧ i = .int .i64 k ∧ v = .int .u64 N ∧ k ≤ 151 ∧ N < 18446744073709551616 ∧ PlayW w p B q C m last' s js wr)
          case atStart => exact ⟨0, 0, _, _, Nat.zero_le _, rfl, rfl, rfl, by omega, by omega, HPL.out⟩
          case round =>
            obtain ⟨k, N, last', js, hk, hgk, rfl, rfl, hk151, hN, hR⟩ := hrel
            have HG := Hd.mk (And.intro hgk hN)
            have HR := Hd.mk hR
            clear hgk hR hN
            by_cases hlt : k < xs.length
            · obtain ⟨b, off, rfl, d0, d1, d2, d3, d4⟩ := (HACT.out.below HR.out.below).at_ k hlt
              have hfit := HACT.out.fits _ (List.getElem_mem hlt)
              obtain ⟨x, hx⟩ : ∃ x, x = xs[k] := ⟨_, rfl⟩
              rw [← hx] at d0 d1 d2 d3 d4 hfit
              clear hx
              obtain ⟨ak, as_, ar, aj, al⟩ := x
              obtain ⟨f1, f2, f3, f4, f5⟩ := hfit
              simp only at d0 d1 d2 d3 d4 f1 f2 f3 f4 f5
              have HF := Hd.mk (And.intro f2 f5)
              clear f2 f5
              by_cases h150 : 150 < k
              · go_wp2
                go_ret
                exact ⟨rfl, (HR.out.old ((Below.refl _ _).alloc (Nat.le_refl _) _)).below⟩
              · have HR2 := Hd.mk (HR.out.old ((Below.refl wr.heap.size wr).alloc (Nat.le_refl _) (.cells #[.int .u8 ak, .int .u64 as_, .bool ar, .int .i64 aj, .int .u64 al] 46)))
                go_upto_if 79 with fail
                have hu : ∃ U : Nat, IntKind.u64.wrap ((N : Int) + (as_ : Int) % 9) = (U : Int) ∧ U < 18446744073709551616 :=
                  ⟨(IntKind.u64.wrap ((N : Int) + (as_ : Int) % 9)).toNat, by simp [IntKind.wrap, IntKind.bits, IntKind.signed]; omega, by simp [IntKind.wrap, IntKind.bits, IntKind.signed]; omega⟩
                obtain ⟨U, hU, hUb⟩ := hu
                rw [hU]
                have HU := Hd.mk hUb
                clear hU hUb
                obtain ⟨bx, hbx⟩ : ∃ bx, bx = wr.heap.size := ⟨_, rfl⟩
                obtain ⟨y, hy⟩ : ∃ y, y = wr.alloc (.cells #[.int .u8 ak, .int .u64 as_, .bool ar, .int .i64 aj, .int .u64 al] 46) := ⟨_, rfl⟩
                have hrow : Row y (some ⟨bx, 0, none⟩) [.int .u8 ak, .int .u64 as_, .bool ar, .int .i64 aj, .int .u64 al] := by rw [hy, hbx]; exact row_new _ _ _ _
                rw [← hy] at HR2 ⊢
                rw [← hbx]
                clear hy hbx d0 d1 d2 d3 d4
                have hcell : ∀ z (hz : z < 5), y.cell? ⟨bx, z, none⟩ = ([.int .u8 ak, .int .u64 as_, .bool ar, .int .i64 aj, .int .u64 al] : List Value)[z]? := fun z hz => by
                  obtain ⟨b', o', e', hc'⟩ := hrow z (by simpa using hz)
                  simp only [Option.some.injEq, Addr.mk.injEq, and_true] at e'
                  obtain ⟨rfl, rfl⟩ := e'
                  rw [Nat.zero_add] at hc'
                  rw [hc', List.getElem?_eq_getElem (by simpa using hz)]
                have b0 : y.cell? ⟨bx, 0, none⟩ = some (.int .u8 ak) := hcell 0 (by omega)
                have b1 : y.cell? ⟨bx, 1, none⟩ = some (.int .u64 as_) := hcell 1 (by omega)
                have b2 : y.cell? ⟨bx, 2, none⟩ = some (.bool ar) := hcell 2 (by omega)
                have b3 : y.cell? ⟨bx, 3, none⟩ = some (.int .i64 aj) := hcell 3 (by omega)
                have b4 : y.cell? ⟨bx, 4, none⟩ = some (.int .u64 al) := hcell 4 (by omega)
                clear hrow hcell
                go_cut [15] (fun v wz => wz = y ∧ ∃ N2 : Nat, v = .int .u64 N2 ∧ Hd (N2 < 18446744073709551616))
                case first =>
                  as_aux_lemma =>
                    cases ar with
                    | true =>
                      go_wp2_with fail
                      go_meet
                      exact ⟨rfl, as_, rfl, ⟨HF.out.1⟩⟩
                    | false =>
                      go_wp2_with fail
                      go_meet
                      exact ⟨rfl, U, rfl, HU⟩
                case rest =>
                  obtain ⟨rfl, N2, rfl, HN2⟩ := hcut
                  clear HU
                  go_wp2_with fail
                  go_quiet (fail)
                  obtain ⟨y2, hy2⟩ : ∃ y2, y2 = wc.drewN nq := ⟨_, rfl⟩
                  have hbd : Below wc.heap.size wc y2 := by rw [hy2]; exact below_drewN _ _
                  have HR3 := Hd.mk (HR2.out.old hbd)
                  have d0 : y2.cell? ⟨bx, 0, none⟩ = some (.int .u8 ak) := by rw [hy2]; exact b0
                  have d2 : y2.cell? ⟨bx, 2, none⟩ = some (.bool ar) := by rw [hy2]; exact b2
                  rw [← hy2]
                  clear hbd hy2 b0 b1 b2 b3 b4 HR2
                  go_upto_if 88 with fail
                  go_cut [18, 19] (fun j l wz => wz = y2 ∧ ∃ job : Int, ∃ lease : Nat, j = .int .i64 job ∧ l = .int .u64 lease ∧ Hd (-9223372036854775808 ≤ job ∧ job ≤ 9223372036854775807 ∧ lease < 18446744073709551616))
                  case first =>
                    as_aux_lemma =>
                      cases ar with
                      | true =>
                        go_wp2_with fail
                        go_meet
                        exact ⟨rfl, aj, al, rfl, rfl, ⟨f3, f4, HF.out.2⟩⟩
                      | false =>
                        go_upto_region 21 with fail
                        obtain ⟨jj, hjj, hjm⟩ := job_mod aj m hm1 (by omega)
                        rw [hjj]
                        clear hjj
                        have hjl : jj < js.length := by rw [HR3.out.len]; exact hjm
                        have c0 : y2.cell? ⟨q, 0, none⟩ = some (.slice (some ⟨C, 0, none⟩) js.length js.length) := HR3.out.ref.cellHead 0 (by omega)
                        have c1 : y2.cell? ⟨C, jj * 5 + 1, none⟩ = some (.int .u64 js[jj].lease) := HR3.out.ref.cellBody jj hjl 1 (by omega)
                        have hsm := HR3.out.ref.small
                        go_wp2_with fail
                        go_meet
                        have hu : ∃ U : Nat, IntKind.u64.wrap ((js[jj].lease : Int) + (al : Int) % 3) = (U : Int) ∧ U < 18446744073709551616 :=
                          ⟨(IntKind.u64.wrap ((js[jj].lease : Int) + (al : Int) % 3)).toNat, by simp [IntKind.wrap, IntKind.bits, IntKind.signed]; omega, by simp [IntKind.wrap, IntKind.bits, IntKind.signed]; omega⟩
                        obtain ⟨U2, hU2, hU2b⟩ := hu
                        exact ⟨rfl, jj, U2, rfl, by rw [hU2], ⟨by omega, by omega, hU2b⟩⟩
                  case rest =>
                    obtain ⟨rfl, job, lease, rfl, rfl, HJL⟩ := hcut
                    go_upto_block 2 with fail
                    obtain ⟨d, hd⟩ : ∃ d, d = ak % 7 := ⟨_, rfl⟩
                    have e4 : (ak : Int) % 7 = (d : Int) := by omega
                    have hd7 : d < 7 := by omega
                    rw [e4]
                    clear hd e4 d0 d2
                    go_cut [] (fun wz => ∃ last2 : Nat, ∃ js2, PlayW w p B q C m last2 s js2 wz)
                    case first =>
                      as_aux_lemma =>
                        by_cases hd01 : d = 0 ∨ d = 1
                        · by_cases hlate : 1099511627776 < N2 ∨ last' = 18446744073709551615
                          · have hy := next_late p B js s last' N2 wc HR3.out.tab hlate
                            have HLT := Hd.mk hlate
                            clear hlate
                            rcases hd01 with rfl | rfl
                            all_goals
                              go_wp2_with fail
                              refine hy.mono ?_
                              clear hy
                              rintro e w6 ⟨rfl, hb⟩
                              have HR6 := Hd.mk (HR3.out.old hb)
                              clear hb
                              have hy := ref_next_late q C js s last' N2 w6 HR6.out.ref HLT.out
                              go_wp2_with fail
                              refine hy.mono ?_
                              clear hy
                              rintro e w7 ⟨rfl, hb⟩
                              have HR7 := Hd.mk (HR6.out.old hb)
                              clear hb
                              go_wp2_with fail
                              go_meet
                              exact ⟨_, _, HR7.out⟩
                          · have hn40 : N2 ≤ 1099511627776 := by omega
                            have hl64 : last' < 18446744073709551615 := by have := HR3.out.tab.lastFits; omega
                            clear hlate
                            cases hff : firstFree js N2 with
                            | none =>
                              have hy := next_none p B js s last' N2 wc HR3.out.tab hn40 hl64 hff
                              have hz := fun w5 h5 => ref_next_none q C js s last' N2 w5 h5 hn40 hl64 hff
                              clear hff hl64
                              rcases hd01 with rfl | rfl
                              all_goals
                                go_wp2_with fail
                                refine hy.mono ?_
                                clear hy
                                rintro e w6 ⟨rfl, hb⟩
                                have HR6 := Hd.mk (HR3.out.old hb)
                                clear hb
                                have hy := hz w6 HR6.out.ref
                                clear hz
                                go_wp2_with fail
                                refine hy.mono ?_
                                clear hy
                                rintro e w7 ⟨rfl, hb⟩
                                have HR7 := Hd.mk (HR6.out.old hb)
                                clear hb
                                go_wp2_with fail
                                go_meet
                                exact ⟨_, _, HR7.out⟩
                            | some i =>
                              obtain ⟨hi, -⟩ := first_lt hff
                              have hy := next_some p B js s last' N2 i wc HR3.out.tab hn40 hl64 hff hi
                              have hz := fun w5 h5 => ref_next_some q C js s last' N2 i w5 h5 hn40 hl64 hff hi
                              have hne1 : ((i : Int) != (i : Int)) = false := by simp
                              have hne2 : (((last' : Int) + 1) != ((last' : Int) + 1)) = false := by simp
                              clear hff hl64
                              rcases hd01 with rfl | rfl
                              all_goals
                                go_wp2_with fail
                                refine hy.mono ?_
                                clear hy
                                rintro e w6 ⟨rfl, hk6, ht6⟩
                                have HW6 := Hd.mk (And.intro hk6 ht6)
                                have hy := hz w6 (HR3.out.refMid HFOUR.out hk6)
                                clear hz hk6 ht6
                                go_wp2_with fail
                                refine hy.mono ?_
                                clear hy
                                rintro e w7 ⟨rfl, hk7, ht7⟩
                                have HR7 := Hd.mk (HR3.out.both HFOUR.out HW6.out.1 HW6.out.2 hk7 ht7 (by simp))
                                clear hk7 ht7
                                go_wp2_with fail
                                go_meet
                                exact ⟨_, _, HR7.out⟩
                        · by_cases hd23 : d = 2 ∨ d = 3
                          · clear hd01
                            by_cases hlate : 1099511627776 < N2
                            · have hy := expire_late p B js s last' N2 wc HR3.out.tab hlate
                              have hz := ref_expire_late q C js s last' N2 wc HR3.out.ref hlate
                              have hs := same_ints none none 0 0 [] wc (Row.nil _ _) (Row.nil _ _) (by simp)
                              clear hlate
                              rcases hd23 with rfl | rfl
                              all_goals
                                go_wp2_with fail
                                refine hy.mono ?_
                                clear hy
                                rintro e w6 ⟨rfl, rfl⟩
                                go_wp2_with fail
                                refine hz.mono ?_
                                clear hz
                                rintro e w7 ⟨rfl, rfl⟩
                                go_wp2_with fail
                                refine hs.mono ?_
                                clear hs
                                rintro e w8 ⟨rfl, dd, rfl⟩
                                have HR7 := Hd.mk (HR3.out.old (below_drewN _ dd))
                                go_wp2_with fail
                                go_meet
                                exact ⟨_, _, HR7.out⟩
                            · have hn40 : N2 ≤ 1099511627776 := by omega
                              have hy := expire_in p B js s last' N2 wc HR3.out.tab hn40
                              have hz := fun w5 h5 => ref_expire_in q C js s last' N2 w5 h5 hn40
                              clear hlate
                              have hl6 : (dueTo js N2 js.length).length ≤ 16 := Nat.le_trans (dueTo_le _ _ _) HR3.out.ref.small
                              have hal := agedTo_length js s N2 js.length (Nat.le_refl _)
                              have HAL := Hd.mk (And.intro hal hl6)
                              clear hal hl6
                              rcases hd23 with rfl | rfl
                              all_goals
                                go_wp2_with fail
                                refine hy.mono ?_
                                clear hy
                                rintro e w6 ⟨hk6, ht6, v, rfl, hown⟩
                                have HW6 := Hd.mk (And.intro hk6 (And.intro ht6 hown))
                                have hy := hz w6 (HR3.out.refMid HFOUR.out hk6)
                                clear hz hk6 ht6 hown
                                go_wp2_with fail
                                refine hy.mono ?_
                                clear hy
                                rintro e w7 ⟨hk7, ht7, v2, rfl, hown2⟩
                                have HR7 := Hd.mk (HR3.out.both HFOUR.out HW6.out.1 HW6.out.2.1 hk7 ht7 HAL.out.1)
                                have hlt := HR3.out.ref.lt
                                have hown1 := own_kept HW6.out.2.2 hk7 hlt.1 hlt.2
                                obtain ⟨A1, c1, rfl, hr1, -, -, -⟩ := own_row hown1
                                obtain ⟨A2, c2, rfl, hr2, -, -, -⟩ := own_row hown2
                                have hs := same_ints A1 A2 c1 c2 _ w7 hr1 hr2 (by have := HAL.out.2; omega)
                                clear hk7 ht7 hown1 hown2 hr1 hr2 hlt
                                go_wp2_with fail
                                refine hs.mono ?_
                                clear hs
                                rintro e w8 ⟨rfl, dd, rfl⟩
                                have HR8 := Hd.mk (HR7.out.old (below_drewN _ dd))
                                go_wp2_with fail
                                go_meet
                                exact ⟨_, _, HR8.out⟩
                          · by_cases hin : 0 ≤ job ∧ job < m
                            · obtain ⟨jj, rfl⟩ : ∃ jj : Nat, job = jj := ⟨job.toNat, by omega⟩
                              have hjl : jj < js.length := by rw [HR3.out.len]; omega
                              have hll : lease < 18446744073709551616 := HJL.out.2.2
                              by_cases hd4 : d = 4
                              · subst hd4
                                clear hd01 hd23 hin
                                have hy := answer_in p B js s last' jj lease wc HR3.out.tab hjl hll
                                have hz := ref_answer_in q C js s last' jj lease wc HR3.out.ref hjl hll
                                obtain ⟨z, hzz⟩ : ∃ z, z = answerIn js[jj] lease := ⟨_, rfl⟩
                                rw [← hzz] at hy hz
                                have hne1 : (z != z) = false := by simp
                                clear hzz hll
                                go_wp2_with fail
                                refine hy.mono ?_
                                clear hy
                                rintro e w6 ⟨rfl, rfl⟩
                                go_wp2_with fail
                                refine hz.mono ?_
                                clear hz
                                rintro e w7 ⟨rfl, rfl⟩
                                go_wp2_with fail
                                go_meet
                                exact ⟨_, _, HR3.out⟩
                              · by_cases hd5 : d = 5
                                · subst hd5
                                  clear hd01 hd23 hin hd4
                                  have hy := refuse_in p B js s last' jj lease N2 wc HR3.out.tab hjl hll
                                  have hz := fun w5 h5 => ref_refuse_in q C js s last' jj lease N2 w5 h5 hjl hll
                                  obtain ⟨z, js2, hzz⟩ : ∃ z js2, refused js s jj js[jj] lease N2 = (z, js2) := ⟨_, _, rfl⟩
                                  rw [hzz] at hy
                                  simp only [hzz] at hz
                                  have hln : js2.length = js.length := by
                                    have : js2 = (refused js s jj js[jj] lease N2).2 := by rw [hzz]
                                    rw [this]
                                    unfold refused
                                    split
                                    · split <;> simp
                                    · rfl
                                  have HLN := Hd.mk hln
                                  have hne1 : (z != z) = false := by simp
                                  clear hzz hll hln
                                  go_wp2_with fail
                                  refine hy.mono ?_
                                  clear hy
                                  rintro e w6 ⟨hk6, rfl, ht6⟩
                                  have HW6 := Hd.mk (And.intro hk6 ht6)
                                  have hy := hz w6 (HR3.out.refMid HFOUR.out hk6)
                                  clear hz hk6 ht6
                                  go_wp2_with fail
                                  refine hy.mono ?_
                                  clear hy
                                  rintro e w7 ⟨hk7, rfl, ht7⟩
                                  have HR7 := Hd.mk (HR3.out.both HFOUR.out HW6.out.1 HW6.out.2 hk7 ht7 HLN.out)
                                  clear hk7 ht7
                                  go_wp2_with fail
                                  go_meet
                                  exact ⟨_, _, HR7.out⟩
                                · obtain rfl : d = 6 := by omega
                                  clear hd01 hd23 hin hd4 hd5
                                  have hy := done_in p B js s last' jj wc HR3.out.tab hjl
                                  have hz := fun w5 h5 => ref_done_in q C js s last' jj w5 h5 hjl
                                  cases hdn : js[jj].done with
                                  | true =>
                                    simp only [hdn, if_true] at hy hz
                                    clear hdn
                                    go_wp2_with fail
                                    refine hy.mono ?_
                                    clear hy
                                    rintro e w6 ⟨hk6, rfl, ht6⟩
                                    have HW6 := Hd.mk (And.intro hk6 ht6)
                                    have hy := hz w6 (HR3.out.refMid HFOUR.out hk6)
                                    clear hz hk6 ht6
                                    go_wp2_with fail
                                    refine hy.mono ?_
                                    clear hy
                                    rintro e w7 ⟨hk7, rfl, ht7⟩
                                    have HR7 := Hd.mk (HR3.out.both HFOUR.out HW6.out.1 HW6.out.2 hk7 ht7 rfl)
                                    clear hk7 ht7
                                    go_wp2_with fail
                                    go_meet
                                    exact ⟨_, _, HR7.out⟩
                                  | false =>
                                    simp only [hdn, Bool.false_eq_true, if_false] at hy hz
                                    clear hdn
                                    go_wp2_with fail
                                    refine hy.mono ?_
                                    clear hy
                                    rintro e w6 ⟨hk6, rfl, ht6⟩
                                    have HW6 := Hd.mk (And.intro hk6 ht6)
                                    have hy := hz w6 (HR3.out.refMid HFOUR.out hk6)
                                    clear hz hk6 ht6
                                    go_wp2_with fail
                                    refine hy.mono ?_
                                    clear hy
                                    rintro e w7 ⟨hk7, rfl, ht7⟩
                                    have HR7 := Hd.mk (HR3.out.both HFOUR.out HW6.out.1 HW6.out.2 hk7 ht7 (by simp))
                                    clear hk7 ht7
                                    go_wp2_with fail
                                    go_meet
                                    exact ⟨_, _, HR7.out⟩
                            · have hout : job < 0 ∨ (js.length : Int) ≤ job := by have := HR3.out.len; omega
                              by_cases hd4 : d = 4
                              · subst hd4
                                clear hd01 hd23 hin
                                have hy := answer_out p B js s last' job lease wc HR3.out.tab hout
                                have hz := ref_answer_out q C js s last' job lease wc HR3.out.ref hout
                                clear hout
                                go_wp2_with fail
                                refine hy.mono ?_
                                clear hy
                                rintro e w6 ⟨rfl, rfl⟩
                                go_wp2_with fail
                                refine hz.mono ?_
                                clear hz
                                rintro e w7 ⟨rfl, rfl⟩
                                go_wp2_with fail
                                go_meet
                                exact ⟨_, _, HR3.out⟩
                              · by_cases hd5 : d = 5
                                · subst hd5
                                  clear hd01 hd23 hin hd4
                                  have hy := refuse_out p B js s last' job lease N2 wc HR3.out.tab hout
                                  have hz := ref_refuse_out q C js s last' job lease N2 wc HR3.out.ref hout
                                  clear hout
                                  go_wp2_with fail
                                  refine hy.mono ?_
                                  clear hy
                                  rintro e w6 ⟨rfl, rfl⟩
                                  go_wp2_with fail
                                  refine hz.mono ?_
                                  clear hz
                                  rintro e w7 ⟨rfl, rfl⟩
                                  go_wp2_with fail
                                  go_meet
                                  exact ⟨_, _, HR3.out⟩
                                · obtain rfl : d = 6 := by omega
                                  clear hd01 hd23 hin hd4 hd5
                                  have hy := done_out p B js s last' job wc HR3.out.tab hout
                                  have hz := ref_done_out q C js s last' job wc HR3.out.ref hout
                                  clear hout
                                  go_wp2_with fail
                                  refine hy.mono ?_
                                  clear hy
                                  rintro e w6 ⟨rfl, rfl⟩
                                  go_wp2_with fail
                                  refine hz.mono ?_
                                  clear hz
                                  rintro e w7 ⟨rfl, rfl⟩
                                  go_wp2_with fail
                                  go_meet
                                  exact ⟨_, _, HR3.out⟩
                    case rest =>
                      as_aux_lemma =>
                        obtain ⟨last2, js2, hW⟩ := hcut
                        have HW := Hd.mk hW
                        clear hW HR HR3
                        go_wp2_with fail
                        refine wp_region_rely (by kernel_rfl) (by kernel_rfl) (SameG p q C m js2)
                          (fun w1 w2 => Below w1.heap.size w1 w2) (Below.refl _ _) (fun w1 w2 w3 h1 h2 => h1.trans (h2.mono h1.size)) SameG.stable (n := 192) (by kernel_rfl) rfl ?_ ?_
                        · simp only [Obl]
                          refine ⟨?_, ?_, ?_, ?_, ?_, ?_, ?_, ?_, trivial⟩
                          all_goals
                            intro vs w' hR hK
                            simp [depsOf, Region.binds, putsOn, dstOf, Act.put, Known, seen, SameG] at hK ⊢
                          case refine_1 | refine_3 | refine_4 | refine_5 | refine_8 => go_wp2; exact ⟨rfl, rfl, Below.refl _ _, rfl⟩
                          case refine_2 =>
                            have HW2 := Hd.mk (HW.out.old (below_undrew hR))
                            go_wp2_with fail
                            refine (jobs_any p B js2 s last2 w' HW2.out.tab).mono ?_
                            rintro e w6 ⟨hb, v, rfl, hj⟩
                            have hlen := HW2.out.len
                            obtain ⟨g, cg, rfl, hg, hcg, hcell⟩ := hj.form (by omega)
                            have hg7 : g < w6.heap.size := World.block_lt_of_cell? w6 ⟨g, 0 * 5 + 0, none⟩ (hcell 0 (by omega) 0 (by omega))
                            rw [hlen] at hcg
                            rw [hlen]
                            have HJ := Hd.mk (And.intro hb (And.intro hcg (And.intro hg7 hcell)))
                            clear hb hj hcg hcell hlen hg7 hg
                            go_wp2
                            exact ⟨rfl, rfl, HJ.out.1, g, ⟨cg, rfl, HJ.out.2.1⟩, HJ.out.2.2.1, HJ.out.2.2.2⟩
                          case refine_6 =>
                            have HW2 := Hd.mk (HW.out.old (below_undrew hR))
                            have c0 : w'.cell? ⟨q, 0, none⟩ = some (.slice (some ⟨C, 0, none⟩) js2.length js2.length) := HW2.out.ref.cellHead 0 (by omega)
                            rw [HW2.out.len] at c0
                            go_wp2
                            exact ⟨rfl, rfl, Below.refl _ _, rfl⟩
                          case refine_7 =>
                            have HW2 := Hd.mk (HW.out.old (below_undrew hR))
                            obtain ⟨⟨g, ⟨cg, e1, hcg⟩, hg, hj⟩, e5, -⟩ := hK
                            have hy := same_jobs g C cg js2.length js2 w' hj (fun i hi z hz => HW2.out.ref.cellBody i hi z hz) HW2.out.ref.small (by rw [HW2.out.len]; exact hcg) (Nat.le_refl _)
                            rw [HW2.out.len] at hy
                            clear hcg hg hj
                            go_wp2_with fail
                            refine hy.mono ?_
                            clear hy
                            rintro e w6 ⟨rfl, dd, rfl⟩
                            go_wp2
                            exact ⟨rfl, rfl, below_drewN _ _, rfl⟩
                        · intro vs w' hR hK
                          simp [Known, List.range, List.range.loop, SameG] at hK
                          obtain ⟨-, -, -, -, -, -, -, h7⟩ := hK
                          have HW2 := Hd.mk (HW.out.old (below_undrew hR))
                          clear hR
                          simp [putsOn, dstOf, Act.put, List.range, List.range.loop]
                          rw [h7]
                          clear h7
                          go_wp2
                          go_roundg (xs.length - (k + 1))
                          case measure => have := HG.out.1; omega
                          case rel => exact ⟨k + 1, N2, last2, js2, by omega, rfl, by go_num, rfl, by omega, HN2.out, HW2.out⟩
            · obtain rfl : k = xs.length := by omega
              go_wp2
              go_ret
              exact ⟨rfl, HR.out.below⟩
end Go.Proofs.Ytjampaggidelgaa
