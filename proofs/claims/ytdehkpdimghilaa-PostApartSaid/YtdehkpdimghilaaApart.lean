/- The walk of PostApart. -/
import Derived.Test.YtdehkpdimghilaaTurns
namespace Go.Proofs.Ytdehkpdimghilaa
open Go.RowKit
set_option linter.unusedSimpArgs false
set_option linter.unusedVariables false

theorem max2 (a b n : Nat) (hn : n = max a b) (ts : Array TypeId) (t : TypeId) (w : World) :
    (Builtin.max_ ts t #[.int .i64 (a : Int), .int .i64 (b : Int)]).run Try.prog w = .ok (.int .i64 (n : Int)) w := by
  rw [run_max_int2]
  congr 2
  subst hn
  split <;> omega

/-- Two boxes, and what was there before. -/
structure Pairs (w : World) (wr : World) (p c q d : Nat) (xs ys : List Int) : Prop where
  fst : BoxAt wr p c 70 256 (xs.map numV)
  snd : BoxAt wr q d 70 256 (ys.map numV)
  below : Below w.heap.size w wr

theorem Pairs.stepFst {w wr w' : World} {p c q d : Nat} {xs ys xs' : List Int} (h : Pairs w wr p c q d xs ys) (hs : Go.Proofs.Ytdehkpdimghilaa.Step wr w' c 256 (xs'.map numV)) (hl : xs'.length ≤ 256) (hqc : q ≠ c) (hdc : d ≠ c) (hcw : w.heap.size ≤ c) : Pairs w w' p c q d xs' ys :=
  ⟨h.fst.step hs (by simpa using hl), h.snd.other hs.grown (by simpa using hqc) (by simpa using hdc), hs.under h.below h.below.size hcw⟩
theorem Pairs.stepSnd {w wr w' : World} {p c q d : Nat} {xs ys ys' : List Int} (h : Pairs w wr p c q d xs ys) (hs : Go.Proofs.Ytdehkpdimghilaa.Step wr w' d 256 (ys'.map numV)) (hl : ys'.length ≤ 256) (hpd : p ≠ d) (hcd : c ≠ d) (hdw : w.heap.size ≤ d) : Pairs w w' p c q d xs ys' :=
  ⟨h.fst.other hs.grown (by simpa using hpd) (by simpa using hcd), h.snd.step hs (by simpa using hl), hs.under h.below h.below.size hdw⟩
theorem take_snoc_nums (l : List Int) (k : Nat) (h : k < l.length) : (l.take (k + 1)).map numV = (l.take k).map numV ++ [.int .i64 l[k]] := by
  rw [List.take_succ_eq_append_getElem h, List.map_append]
  rfl

set_option maxRecDepth 100000 in
set_option maxHeartbeats 3200000 in
theorem postApart (A B : Option Addr) (a0 b0 a b : List Int) (ca cb : Nat) (t : Nat) (w : World) (ha : Nums w A a) (hb : Nums w B b) (hca : a0.length ≤ ca) (hcb : b0.length ≤ cb) (ht : t < 256)
    (hma : a0.length ≤ 9223372036854775807) (hmb : b0.length ≤ 9223372036854775807) (la : a.length = min a0.length 200) (lb : b.length = min b0.length 200) :
    Calls Try.prog 7 #[.slice A a0.length ca, .slice B b0.length cb, .int .u8 t] w fun e w' => e = .returned (.bool true) ∧ Below w.heap.size w w' := by
  have HA := Hd.mk ha
  have HB := Hd.mk hb
  clear ha hb
  have hmin : ∀ (ts : Array TypeId) (t : TypeId) (w : World), (Builtin.min_ ts t #[.int .i64 (a0.length : Int), .int .i64 200]).run Try.prog w = .ok (.int .i64 (a.length : Int)) w := min2 a0.length 200 a.length la
  have hmin' : ∀ (ts : Array TypeId) (t : TypeId) (w : World), (Builtin.min_ ts t #[.int .i64 (b0.length : Int), .int .i64 200]).run Try.prog w = .ok (.int .i64 (b.length : Int)) w := min2 b0.length 200 b.length lb
  obtain ⟨n, hn⟩ : ∃ n, n = max a.length b.length := ⟨_, rfl⟩
  have hmax := max2 a.length b.length n hn
  have ha2 : a.length ≤ 200 := by omega
  have hb2 : b.length ≤ 200 := by omega
  have hn2 : n ≤ 200 := by omega
  have hal : a.length ≤ a0.length := by omega
  have hbl : b.length ≤ b0.length := by omega
  have hna : a.length ≤ n := by omega
  have hnb : b.length ≤ n := by omega
  clear la lb hn
  go_enter Try.func7, Try.ntmps7
  go_wp2_with fail
  refine (awake _).mono ?_
  rintro e w1 ⟨rfl, hb⟩
  have L1 := Hd.mk hb
  clear hb
  go_wp2_with fail
  refine (I.new_ok 256 w1 (by omega) (by omega)).mono ?_
  rintro e w2 ⟨p, c, rfl, hbx, hbl, hp, hc⟩
  have B2 := Hd.mk hbx
  have L2 : Hd (Below w.heap.size w w2) := ⟨L1.out.trans (hbl.mono L1.out.size)⟩
  have hpw : w.heap.size ≤ p := Nat.le_trans L1.out.size hp
  have hcw : w.heap.size ≤ c := Nat.le_trans L1.out.size hc
  clear hbx hbl hp hc
  go_wp2_with fail
  refine (I.new_ok 256 w2 (by omega) (by omega)).mono ?_
  rintro e w3 ⟨q, d, rfl, hbx, hbl, hq, hd⟩
  have hqw : w.heap.size ≤ q := Nat.le_trans L2.out.size hq
  have hdw : w.heap.size ≤ d := Nat.le_trans L2.out.size hd
  have hplt := B2.out.lt
  have hclt := B2.out.chan.lt
  have hpd : p ≠ d := by omega
  have hcd : c ≠ d := by omega
  have hqc : q ≠ c := by omega
  have K3 : Hd (Pairs w w3 p c q d [] []) := ⟨⟨B2.out.below hbl, hbx, L2.out.trans (hbl.mono L2.out.size)⟩⟩
  have HX := Hd.mk (And.intro hpd (And.intro hcd hqc))
  clear hbx hbl hq hd hplt hclt hpd hcd hqc B2 L2 L1
  go_wp2
  go_quiet (fail)
  have K3' : Hd (Pairs w (w3.drewN nq) p c q d [] []) := ⟨⟨⟨K3.out.fst.head, K3.out.fst.chan, K3.out.fst.fits, K3.out.fst.small⟩, ⟨K3.out.snd.head, K3.out.snd.chan, K3.out.snd.fits, K3.out.snd.small⟩, ⟨K3.out.below.os, K3.out.below.tape, K3.out.below.output, K3.out.below.size, K3.out.below.block⟩⟩⟩
  generalize w3.drewN nq = w4 at K3'
  clear K3
  go_wp2
  go_loopw [41] (fun i wr => ∃ k : Nat, k ≤ n ∧ i = .int .i64 k ∧ Pairs w wr p c q d (a.take k) (b.take k)) (fun i _ => n - (intOf i).toNat)
  case atStart => exact ⟨0, Nat.zero_le _, rfl, by simpa using K3'.out⟩
  case round =>
    obtain ⟨k, hk, rfl, ht2⟩ := hrel
    have HK := Hd.mk ht2
    clear ht2
    by_cases hlt : k < n
    · by_cases h1 : k < a.length
      · obtain ⟨ba, oa, rfl, hca1⟩ := (show Nums wr A a from Row.below HA.out HK.out.below).at_ k h1
        obtain ⟨xa, hxa⟩ : ∃ x, x = a[k] := ⟨_, rfl⟩
        rw [← hxa] at hca1
        have HXA := Hd.mk hxa
        clear hxa
        by_cases h2 : k < b.length
        · obtain ⟨bb, ob, rfl, hcb1⟩ := (show Nums wr B b from Row.below HB.out HK.out.below).at_ k h2
          obtain ⟨xb, hxb⟩ : ∃ x, x = b[k] := ⟨_, rfl⟩
          rw [← hxb] at hcb1
          have HXB := Hd.mk hxb
          clear hxb
          go_wp2_with fail
          have hy := I.put_room p c 256 ((a.take k).map numV) (.int .i64 xa) wr HK.out.fst (by simp; omega)
          refine hy.mono ?_
          clear hy
          rintro e w5 ⟨rfl, hs⟩
          have K4 : Hd (Pairs w w5 p c q d (a.take (k + 1)) (b.take k)) := ⟨HK.out.stepFst (by rw [take_snoc_nums a k h1, ← HXA.out]; exact hs) (by simp; omega) HX.out.2.2 (Ne.symm HX.out.2.1) hcw⟩
          clear hs
          obtain ⟨bb', ob', e', hcb2⟩ := (show Nums w5 _ b from Row.below HB.out K4.out.below).at_ k h2
          simp only [Option.some.injEq, Addr.mk.injEq, and_true] at e'
          obtain ⟨rfl, rfl⟩ := e'
          rw [← HXB.out] at hcb2
          go_wp2_with fail
          have hy := I.put_room q d 256 ((b.take k).map numV) (.int .i64 xb) w5 K4.out.snd (by simp; omega)
          refine hy.mono ?_
          clear hy
          rintro e w6 ⟨rfl, hs⟩
          have K5 : Hd (Pairs w w6 p c q d (a.take (k + 1)) (b.take (k + 1))) := ⟨K4.out.stepSnd (by rw [take_snoc_nums b k h2, ← HXB.out]; exact hs) (by simp; omega) HX.out.1 HX.out.2.1 hdw⟩
          clear hs
          go_wp2
          go_roundw
          case rel => exact ⟨k + 1, by omega, by go_num, K5.out⟩
          case measure => simp [intOf]; omega
        · go_wp2_with fail
          have hy := I.put_room p c 256 ((a.take k).map numV) (.int .i64 xa) wr HK.out.fst (by simp; omega)
          refine hy.mono ?_
          clear hy
          rintro e w5 ⟨rfl, hs⟩
          have K4 : Hd (Pairs w w5 p c q d (a.take (k + 1)) (b.take (k + 1))) := ⟨by
            rw [show b.take (k + 1) = b.take k from by rw [List.take_of_length_le (by omega), List.take_of_length_le (by omega)]]
            exact HK.out.stepFst (by rw [take_snoc_nums a k h1, ← HXA.out]; exact hs) (by simp; omega) HX.out.2.2 (Ne.symm HX.out.2.1) hcw⟩
          clear hs
          go_wp2
          go_roundw
          case rel => exact ⟨k + 1, by omega, by go_num, K4.out⟩
          case measure => simp [intOf]; omega
      · by_cases h2 : k < b.length
        · obtain ⟨bb, ob, rfl, hcb1⟩ := (show Nums wr B b from Row.below HB.out HK.out.below).at_ k h2
          obtain ⟨xb, hxb⟩ : ∃ x, x = b[k] := ⟨_, rfl⟩
          rw [← hxb] at hcb1
          have HXB := Hd.mk hxb
          clear hxb
          go_wp2_with fail
          have hy := I.put_room q d 256 ((b.take k).map numV) (.int .i64 xb) wr HK.out.snd (by simp; omega)
          refine hy.mono ?_
          clear hy
          rintro e w5 ⟨rfl, hs⟩
          have K4 : Hd (Pairs w w5 p c q d (a.take (k + 1)) (b.take (k + 1))) := ⟨by
            rw [show a.take (k + 1) = a.take k from by rw [List.take_of_length_le (by omega), List.take_of_length_le (by omega)]]
            exact HK.out.stepSnd (by rw [take_snoc_nums b k h2, ← HXB.out]; exact hs) (by simp; omega) HX.out.1 HX.out.2.1 hdw⟩
          clear hs
          go_wp2
          go_roundw
          case rel => exact ⟨k + 1, by omega, by go_num, K4.out⟩
          case measure => simp [intOf]; omega
        · have K4 : Hd (Pairs w wr p c q d (a.take (k + 1)) (b.take (k + 1))) := ⟨by
            rw [show a.take (k + 1) = a.take k from by rw [List.take_of_length_le (by omega), List.take_of_length_le (by omega)], show b.take (k + 1) = b.take k from by rw [List.take_of_length_le (by omega), List.take_of_length_le (by omega)]]
            exact HK.out⟩
          go_wp2
          go_roundw
          case rel => exact ⟨k + 1, by omega, by go_num, K4.out⟩
          case measure => simp [intOf]; omega
    · obtain rfl : k = n := by omega
      rw [List.take_of_length_le hna, List.take_of_length_le hnb] at HK
      clear hlt
      go_wp2
      go_loopw [66] (fun i wq => ∃ k : Nat, k ≤ t ∧ i = .int .u8 k ∧ Pairs w wq p c q d (a.drop k) b) (fun i _ => t - (intOf i).toNat)
      case atStart => exact ⟨0, Nat.zero_le _, rfl, HK.out⟩
      case round =>
        clear HK
        obtain ⟨j, hj, rfl, ht2⟩ := hrel
        have HK := Hd.mk ht2
        clear ht2
        by_cases hlt : j < t
        · by_cases h1 : j < a.length
          · rw [List.drop_eq_getElem_cons h1] at HK
            go_wp2_with fail
            have hy := I.take_some p c 256 (.int .i64 a[j]) ((a.drop (j + 1)).map numV) wr HK.out.fst
            refine hy.mono ?_
            clear hy
            rintro e w5 ⟨rfl, hs⟩
            have K4 : Hd (Pairs w w5 p c q d (a.drop (j + 1)) b) := ⟨HK.out.stepFst hs (by simp; omega) HX.out.2.2 (Ne.symm HX.out.2.1) hcw⟩
            clear hs
            go_wp2
            go_roundw
            case rel => exact ⟨j + 1, by omega, by go_num, K4.out⟩
            case measure => simp [intOf]; omega
          · rw [List.drop_of_length_le (by omega)] at HK
            go_wp2_with fail
            have hy := I.take_none p c 256 wr HK.out.fst
            refine hy.mono ?_
            clear hy
            rintro e w5 ⟨rfl, rfl⟩
            go_wp2
            go_roundw
            case rel => exact ⟨j + 1, by omega, by go_num, by rw [List.drop_of_length_le (by omega)]; exact HK.out⟩
            case measure => simp [intOf]; omega
        · obtain rfl : j = t := by omega
          clear hlt
          go_wp2_with fail
          have hy := I.all_any q d 256 (b.map numV) wr HK.out.snd num_form
          refine hy.mono ?_
          clear hy
          rintro e w7 ⟨v7, rfl, hs, hown⟩
          have K7 : Hd (Pairs w w7 p c q d (a.drop j) b) := ⟨HK.out.stepSnd hs (by omega) HX.out.1 HX.out.2.1 hdw⟩
          obtain ⟨G, cg, rfl, hrow, -, hG, -, -⟩ := own_row hown
          have HG : Hd (∀ a, G = some a → c < a.block) := ⟨fun a ha => by have := hG a ha; have := HK.out.fst.chan.lt; omega⟩
          have HR7 : Hd (Nums w7 G b) := ⟨hrow⟩
          rw [List.length_map]
          clear hs hown hrow hG HK
          go_wp2_with fail
          have hy := I.all_any p c 256 ((a.drop j).map numV) w7 K7.out.fst num_form
          refine hy.mono ?_
          clear hy
          rintro e w8 ⟨v8, rfl, hs, hown⟩
          have L8 : Hd (Below w.heap.size w w8) := ⟨hs.under K7.out.below K7.out.below.size hcw⟩
          have hR8 : Nums w8 G b := Row.grown HR7.out hs.grown (fun a ha => by
            have h1 := HG.out a ha
            intro e
            cases e
            omega)
          obtain ⟨G8, cg8, rfl, hrow, -, -, -, -⟩ := own_row hown
          have HR8 : Hd (Nums w8 G b ∧ Nums w8 G8 (a.drop j) ∧ Nums w8 A a ∧ Nums w8 B b) := ⟨⟨hR8, hrow, Row.below HA.out L8.out, Row.below HB.out L8.out⟩⟩
          rw [List.length_map]
          obtain ⟨m, hm⟩ : ∃ m, m = (a.drop j).length := ⟨_, rfl⟩
          rw [← hm]
          have hmj : m = a.length - j := by rw [hm]; simp
          have HMM := Hd.mk hm
          have HMJ := Hd.mk hmj
          have hmax0 : ∀ (ts : Array TypeId) (t : TypeId) (w : World), (Builtin.max_ ts t #[.int .i64 0, .int .i64 ((a.length : Int) - (j : Int))]).run Try.prog w = .ok (.int .i64 (m : Int)) w := by
            intro ts t w
            rw [run_max_int2]
            congr 2
            split <;> omega
          clear hs hown hrow hR8 HR7 K7 hm hmj hmax
          go_wp2
          go_loopw [93] (fun i wz => ∃ k : Nat, k ≤ b.length ∧ i = .int .i64 k ∧ ∃ d, wz = w8.drewN d) (fun i _ => b.length - (intOf i).toNat)
          case atStart => exact ⟨0, Nat.zero_le _, rfl, 0, rfl⟩
          case round =>
            obtain ⟨k2, hk2, rfl, dn, rfl⟩ := hrel
            by_cases hlt : k2 < b.length
            · obtain ⟨b1, o1, rfl, hc1⟩ := HR8.out.1.at_ k2 hlt
              obtain ⟨b2, o2, rfl, hc2⟩ := HR8.out.2.2.2.at_ k2 hlt
              go_wp2
              go_quiet (fail)
              go_wp2
              go_roundw
              case rel => exact ⟨k2 + 1, by omega, by go_num, dn + nq, rfl⟩
              case measure => simp [intOf]; omega
            · obtain rfl : k2 = b.length := by omega
              clear hlt
              go_wp2
              go_loopw [108] (fun i wz => ∃ k : Nat, k ≤ m ∧ i = .int .i64 k ∧ ∃ d, wz = w8.drewN d) (fun i _ => m - (intOf i).toNat)
              case atStart => exact ⟨0, Nat.zero_le _, rfl, dn, rfl⟩
              case round =>
                obtain ⟨k3, hk3, rfl, dn3, rfl⟩ := hrel
                by_cases hlt : k3 < m
                · obtain ⟨b1, o1, rfl, hc1⟩ := HR8.out.2.1.at_ k3 (by rw [← HMM.out]; exact hlt)
                  have hjk : j + k3 < a.length := by have := HMJ.out; omega
                  obtain ⟨b2, o2, rfl, hc2⟩ := HR8.out.2.2.1.at_ (j + k3) hjk
                  obtain ⟨xv, hxv⟩ : ∃ x, x = a[j + k3] := ⟨_, rfl⟩
                  rw [← hxv] at hc2
                  have hc1' : w8.cell? ⟨b1, o1 + k3, none⟩ = some (.int .i64 xv) := by
                    rw [hc1, hxv]
                    simp
                  clear hc1 hxv
                  obtain ⟨jk, hjke⟩ : ∃ jk, jk = j + k3 := ⟨_, rfl⟩
                  rw [← hjke] at hc2 hjk
                  have ej : (j : Int) + (k3 : Int) = (jk : Int) := by omega
                  have ejw : IntKind.i64.wrap (jk : Int) = (jk : Int) := IntWalk.i64_in _ (by omega)
                  clear hjke
                  go_wp2
                  go_quiet (fail)
                  go_wp2
                  go_roundw
                  case rel => exact ⟨k3 + 1, by omega, by go_num, dn3 + nq, rfl⟩
                  case measure => simp [intOf]; omega
                · obtain rfl : k3 = m := by omega
                  go_wp2
                  go_ret
                  exact ⟨by simp, ⟨L8.out.os, L8.out.tape, L8.out.output, L8.out.size, L8.out.block⟩⟩
end Go.Proofs.Ytdehkpdimghilaa
