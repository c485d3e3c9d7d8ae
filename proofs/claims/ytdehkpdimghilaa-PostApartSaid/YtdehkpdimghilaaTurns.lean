/- The walk of PostTurns. -/
import Derived.Test.YtdehkpdimghilaaTypes
import Derived.Laws.Cover1
import Derived.Deep.QuietTactic
import Derived.BigQuiet
namespace Go.Proofs.Ytdehkpdimghilaa
open Go.RowKit
set_option linter.unusedSimpArgs false
set_option linter.unusedVariables false

theorem min2 (a b n : Nat) (hn : n = min a b) (ts : Array TypeId) (t : TypeId) (w : World) :
    (Builtin.min_ ts t #[.int .i64 (a : Int), .int .i64 (b : Int)]).run Try.prog w = .ok (.int .i64 (n : Int)) w := by
  rw [run_min_int2]
  congr 2
  subst hn
  split <;> omega
theorem min3 (a b c n : Nat) (hn : n = min a (min b c)) (ts : Array TypeId) (t : TypeId) (w : World) :
    (Builtin.min_ ts t #[.int .i64 (a : Int), .int .i64 (b : Int), .int .i64 (c : Int)]).run Try.prog w = .ok (.int .i64 (n : Int)) w := by
  rw [run_min_int3]
  congr 2
  subst hn
  split <;> split <;> omega

/-- One box, and what was there before. -/
structure OneBox (w : World) (wr : World) (p c n : Nat) (xs : List Int) : Prop where
  box : BoxAt wr p c 70 n (xs.map numV)
  below : Below w.heap.size w wr
theorem OneBox.alloc {w wr : World} {p c n : Nat} {xs : List Int} (h : OneBox w wr p c n xs) (o : Obj) : OneBox w (wr.alloc o) p c n xs :=
  have hb : Below wr.heap.size wr (wr.alloc o) := (Below.refl _ _).alloc (Nat.le_refl _) o
  ⟨h.box.below hb, h.below.alloc h.below.size o⟩
theorem rot_nums (l : List Int) (k : Nat) (h : k < l.length) : l.drop k ++ l.take k = l[k] :: (l.drop (k + 1) ++ l.take k) ∧ (l.drop (k + 1) ++ l.take k) ++ [l[k]] = l.drop (k + 1) ++ l.take (k + 1) := by
  refine ⟨by rw [List.drop_eq_getElem_cons h]; rfl, ?_⟩
  rw [List.take_succ_eq_append_getElem h, List.append_assoc]
theorem num_form {l : List Int} : ∀ u ∈ l.map numV, ∃ t : Int, u = Value.int .i64 t := by
  intro u hu
  obtain ⟨n, _, rfl⟩ := List.mem_map.1 hu
  exact ⟨n, rfl⟩

set_option maxRecDepth 100000 in
set_option maxHeartbeats 1600000 in
theorem postTurns (A : Option Addr) (l : List Int) (cp : Nat) (r : Nat) (w : World) (ha : Nums w A l) (hcp : l.length ≤ cp) (hm : l.length ≤ 9223372036854775807) (hr : r < 256) :
    Calls Try.prog 5 #[.slice A l.length cp, .int .u8 r] w fun e w' => e = .returned (.bool true) ∧ Below w.heap.size w w' := by
  have HA := Hd.mk ha
  clear ha
  obtain ⟨n, hn⟩ : ∃ n, n = min l.length 300 := ⟨_, rfl⟩
  have hmin : ∀ (ts : Array TypeId) (t : TypeId) (w : World), (Builtin.min_ ts t #[.int .i64 (l.length : Int), .int .i64 300]).run Try.prog w = .ok (.int .i64 (n : Int)) w := min2 l.length 300 n hn
  obtain ⟨m, hmd⟩ : ∃ m, m = min n (1 + r) := ⟨_, rfl⟩
  have hmin3 : ∀ (ts : Array TypeId) (t : TypeId) (w : World), (Builtin.min_ ts t #[.int .i64 (l.length : Int), .int .i64 300, .int .i64 (1 + (r : Int))]).run Try.prog w = .ok (.int .i64 (m : Int)) w := by
    have h3 := min3 l.length 300 (1 + r) m (by omega)
    intro ts t w
    have := h3 ts t w
    rwa [show (((1 + r : Nat)) : Int) = 1 + (r : Int) from by omega] at this
  have hnl : n ≤ l.length := by omega
  have hn3 : n ≤ 300 := by omega
  have HN := Hd.mk hn
  clear hn
  go_enter Try.func5, Try.ntmps5
  go_wp2_with fail
  refine (awake _).mono ?_
  rintro e w1 ⟨rfl, hb⟩
  have L1 := Hd.mk hb
  clear hb
  go_wp2_with fail
  have hx := I.new_ok (1 + r) w1 (by omega) (by omega)
  rw [show (((1 + r : Nat)) : Int) = 1 + (r : Int) from by omega] at hx
  refine hx.mono ?_
  clear hx
  rintro e w2 ⟨p, c, rfl, hbx, hbl, hp, hc⟩
  have K2 : Hd (OneBox w w2 p c (1 + r) []) := ⟨⟨hbx, L1.out.trans (hbl.mono L1.out.size)⟩⟩
  have hpw : w.heap.size ≤ p := Nat.le_trans L1.out.size hp
  have hcw : w.heap.size ≤ c := Nat.le_trans L1.out.size hc
  clear hbx hbl hp hc L1
  clear HN
  go_wp2
  go_loopw [27] (fun i wr => ∃ k : Nat, k ≤ n ∧ i = .int .i64 k ∧ OneBox w wr p c (1 + r) (l.take (min k (1 + r)))) (fun i _ => n - (intOf i).toNat)
  case atStart => exact ⟨0, Nat.zero_le _, rfl, by simpa using K2.out⟩
  case round =>
    obtain ⟨k, hk, rfl, ht⟩ := hrel
    have HK := Hd.mk ht
    clear ht
    by_cases hlt : k < n
    · have hkl : k < l.length := by omega
      obtain ⟨b, off, rfl, hcell⟩ := (show Nums wr A l from Row.below HA.out HK.out.below).at_ k hkl
      obtain ⟨x, hx⟩ : ∃ x, x = l[k] := ⟨_, rfl⟩
      rw [← hx] at hcell
      have HXX := Hd.mk hx
      clear hx
      by_cases hroom : k < 1 + r
      · go_wp2_with fail
        have hy := I.put_room p c (1 + r) ((l.take (min k (1 + r))).map numV) (.int .i64 x) wr HK.out.box (by simp; omega)
        refine hy.mono ?_
        clear hy
        rintro e w4 ⟨rfl, hs⟩
        have K4 : Hd (OneBox w w4 p c (1 + r) (l.take (min (k + 1) (1 + r)))) := ⟨by
          have e1 : (l.take (min (k + 1) (1 + r))).map numV = (l.take (min k (1 + r))).map numV ++ [.int .i64 x] := by
            rw [show min (k + 1) (1 + r) = k + 1 from by omega, show min k (1 + r) = k from by omega, List.take_succ_eq_append_getElem hkl, List.map_append, ← HXX.out]
            rfl
          have hb := HK.out.box.step hs (by simp; omega)
          rw [← e1] at hb
          exact ⟨hb, hs.under HK.out.below HK.out.below.size hcw⟩⟩
        clear hs
        go_wp2
        go_roundw
        case rel => exact ⟨k + 1, by omega, by go_num, K4.out⟩
        case measure => simp [intOf]; omega
      · go_wp2_with fail
        have hy := I.put_full p c (1 + r) ((l.take (min k (1 + r))).map numV) (.int .i64 x) wr HK.out.box (by simp; omega)
        refine hy.mono ?_
        clear hy
        rintro e w4 ⟨rfl, rfl⟩
        have K4 : Hd (OneBox w wr p c (1 + r) (l.take (min (k + 1) (1 + r)))) := ⟨by
          rw [show min (k + 1) (1 + r) = min k (1 + r) from by omega]
          exact HK.out⟩
        go_wp2
        go_roundw
        case rel => exact ⟨k + 1, by omega, by go_num, K4.out⟩
        case measure => simp [intOf]; omega
    · obtain rfl : n = k := by omega
      rw [← hmd] at HK
      obtain ⟨xs, hxs⟩ : ∃ xs, xs = l.take m := ⟨_, rfl⟩
      rw [← hxs] at HK
      have hxl : xs.length = m := by rw [hxs]; simp; omega
      clear hxs hlt
      have hm256 : m ≤ 256 := by omega
      go_wp2_with fail
      have hy := I.all_any p c (1 + r) (xs.map numV) wr HK.out.box num_form
      refine hy.mono ?_
      clear hy
      rintro e w5 ⟨v, rfl, hs, hown⟩
      have K5 : Hd (OneBox w w5 p c (1 + r) xs) := ⟨⟨HK.out.box.step hs HK.out.box.fits, hs.under HK.out.below HK.out.below.size hcw⟩⟩
      have hclt := HK.out.box.chan.lt
      obtain ⟨G, cg, rfl, hrow, -, hG, -, -⟩ := own_row hown
      rw [List.length_map, hxl]
      have HG : Hd (∀ a, G = some a → c < a.block) := ⟨fun a ha => by have := hG a ha; omega⟩
      have HR5 : Hd (Nums w5 G xs) := ⟨hrow⟩
      clear hs hown hrow hG hclt HK
      go_wp2
      go_loopw [39] (fun i wq => ∃ k : Nat, k ≤ m ∧ i = .int .i64 k ∧ OneBox w wq p c (1 + r) (xs.drop k ++ xs.take k) ∧ Nums wq G xs) (fun i _ => m - (intOf i).toNat)
      case atStart => exact ⟨0, Nat.zero_le _, rfl, by simpa using K5.out, HR5.out⟩
      case round =>
        obtain ⟨k, hk, rfl, ht, hnm⟩ := hrel
        by_cases hlt : k < m
        · obtain ⟨e1, e2⟩ := rot_nums xs k (by omega)
          rw [e1] at ht
          have HK := Hd.mk ht
          have HE := Hd.mk e2
          have HNM := Hd.mk hnm
          clear ht e1 e2 hnm
          go_wp2_with fail
          have hy := I.turn_some p c (1 + r) _ _ wr HK.out.box
          refine hy.mono ?_
          clear hy
          rintro e w6 ⟨rfl, hs⟩
          have K6 : Hd (OneBox w w6 p c (1 + r) (xs.drop (k + 1) ++ xs.take (k + 1)) ∧ Nums w6 G xs) := ⟨by
            have hb := HK.out.box.step hs (by have := HK.out.box.fits; simp at this ⊢; omega)
            refine ⟨⟨?_, hs.under HK.out.below HK.out.below.size hcw⟩, Row.grown HNM.out hs.grown (fun a ha => ?_)⟩
            · rw [← HE.out, List.map_append]
              exact hb
            · have h1 := HG.out a ha
              intro e
              cases e
              omega⟩
          clear hs
          go_wp2
          go_roundw
          case rel => exact ⟨k + 1, by omega, by go_num, K6.out.1, K6.out.2⟩
          case measure => simp [intOf]; omega
        · obtain rfl : k = m := by omega
          rw [← hxl, List.drop_length, List.nil_append, List.take_length] at ht
          have HK := Hd.mk ht
          have HNM := Hd.mk hnm
          clear ht hnm
          go_wp2_with fail
          have hy := I.all_any p c (1 + r) (xs.map numV) wr HK.out.box num_form
          refine hy.mono ?_
          clear hy
          rintro e w7 ⟨v7, rfl, hs, hown⟩
          have L7 : Hd (Below w.heap.size w w7) := ⟨hs.under HK.out.below HK.out.below.size hcw⟩
          have hn7 : Nums w7 G xs := Row.grown HNM.out hs.grown (fun a ha => by
            have h1 := HG.out a ha
            intro e
            cases e
            omega)
          obtain ⟨G7, cg7, rfl, hrow, -, -, -, -⟩ := own_row hown
          rw [List.length_map, hxl]
          have HR7 : Hd (Nums w7 G7 xs ∧ Nums w7 G xs) := ⟨⟨hrow, hn7⟩⟩
          clear hs hown hrow hn7 HK HNM HR5 K5
          go_wp2
          go_loopw [49] (fun i wz => ∃ k : Nat, k ≤ xs.length ∧ i = .int .i64 k ∧ ∃ d, wz = w7.drewN d) (fun i _ => xs.length - (intOf i).toNat)
          case atStart => exact ⟨0, Nat.zero_le _, rfl, 0, rfl⟩
          case round =>
            obtain ⟨j, hj, rfl, d, rfl⟩ := hrel
            by_cases hlt : j < xs.length
            · obtain ⟨b1, o1, rfl, hc1⟩ := HR7.out.1.at_ j hlt
              obtain ⟨b2, o2, rfl, hc2⟩ := HR7.out.2.at_ j hlt
              go_wp2
              go_quiet (fail)
              go_wp2
              go_roundw
              case rel => exact ⟨j + 1, by omega, by go_num, d + nq, rfl⟩
              case measure => simp [intOf]; omega
            · obtain rfl : j = xs.length := by omega
              go_wp2
              go_ret
              exact ⟨by simp, ⟨L7.out.os, L7.out.tape, L7.out.output, L7.out.size, L7.out.block⟩⟩
end Go.Proofs.Ytdehkpdimghilaa
