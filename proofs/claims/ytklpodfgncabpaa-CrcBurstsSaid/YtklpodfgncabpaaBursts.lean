/- The walk of CrcBursts. -/
import Derived.Test.YtklpodfgncabpaaSums
import Derived.StillTailTactics
namespace Go.Proofs.Ytklpodfgncabpaa
open Go.RowKit
set_option linter.unusedSimpArgs false
set_option linter.unusedVariables false

theorem crcBursts_big (A : Option Addr) (a : Nat) (ca : Nat) (at_ word : Int) (w : World) (h : a = 0 ∨ 3000 < a) (ha : a ≤ maxLen) :
    Calls Try.prog 5 #[.slice A a ca, .int .i64 at_, .int .u32 word] w fun e w' => e = .returned (.bool true) ∧ Below w.heap.size w w' := by
  unfold maxLen at ha
  by_cases h1 : a = 0
  · subst h1
    go_enter Try.func5, Try.ntmps5
    go_wp2_with (go_at_call 7; refine (awake _).mono ?_; rintro e w' ⟨rfl, hb⟩)
    go_ret
    exact ⟨rfl, hb⟩
  · have h2 : 3000 < a := by omega
    have hb0 : ((a : Int) == 0) = false := by rw [beq_eq_false_iff_ne]; omega
    go_enter Try.func5, Try.ntmps5
    go_wp2_with (go_at_call 7; refine (awake _).mono ?_; rintro e w' ⟨rfl, hb⟩)
    go_ret
    exact ⟨rfl, hb⟩

theorem kval (x : Int) (n : Nat) (h0 : 0 < n) (h1 : n ≤ 3000) : ∃ k : Nat, wrap64 ((IntKind.u64.wrap x).tmod (8 * (n : Int))) = (k : Int) ∧ k < 8 * n := by
  rw [IntKind.wrap_u64]
  have h2 : 0 ≤ x % 18446744073709551616 := Int.emod_nonneg _ (by decide)
  rw [Int.tmod_eq_emod_of_nonneg h2]
  have h3 : 0 ≤ x % 18446744073709551616 % (8 * (n : Int)) := Int.emod_nonneg _ (by omega)
  have h4 : x % 18446744073709551616 % (8 * (n : Int)) < 8 * (n : Int) := Int.emod_lt_of_pos _ (by omega)
  obtain ⟨k, hk⟩ := Int.eq_ofNat_of_zero_le h3
  rw [hk] at h4 ⊢
  refine ⟨k, IntWalk.wrap64_in _ ⟨by omega, by omega⟩, by omega⟩

set_option maxHeartbeats 800000 in
set_option maxRecDepth 100000 in
theorem crcBursts (A : Option Addr) (b : List UInt8) (ca : Nat) (at_ word : Int) (w : World) (ha : Bytes w A b) (la : b.length ≤ 3000) (l0 : 0 < b.length) (hw0 : 0 ≤ word) (hw1 : word < 4294967296) :
    Calls Try.prog 5 #[.slice A b.length ca, .int .i64 at_, .int .u32 word] w fun e w' => e = .returned (.bool true) ∧ Below w.heap.size w w' := by
  obtain ⟨i0, hi, hz0, hz1, hz2⟩ := info_parts info5
  have HI0 := Hd.mk hi
  have HZ0 := Hd.mk hz0
  have HZ1 := Hd.mk hz1
  have HZ2 := Hd.mk hz2
  have HA := Hd.mk ha
  have hb0 : ((b.length : Int) == 0) = false := by rw [beq_eq_false_iff_ne]; omega
  clear ha hi hz0 hz1 hz2
  go_enter Try.func5, Try.ntmps5
  go_wp2_with fail
  refine (awake _).mono ?_
  rintro e w1 ⟨rfl, hb1⟩
  have HW1 := Hd.mk hb1
  have hown := World.ownsRow_lit (base := w.heap.size) (e := 5) (size := 1) w1 #[] 0 hb1.size (by decide) rfl
  have HO := Hd.mk hown
  clear hb1 hown
  go_wp2_with (first
    | (at_builtin; refine wpList_append_row rfl (.tmp 22) (.tmp 23) 22 rfl w.heap.size 5 i0 (.int .u8 0) 1 Try.underlying22 HI0.out HZ0.out HZ1.out HZ2.out rfl _ 0 [] rfl HO.out A b.length ca (b.map byteV) rfl (by simp) (HA.out.below (HW1.out.alloc HW1.out.size _)) byte_one ?x1 ?x2 ?x3 ?x4))
  case x1 => omega
  case x2 => unfold maxLen; omega
  case x3 => have := HW1.out.size; simp; omega
  case x4 =>
    intro v3 w3 ho3 hg3
    have hb3 : Below w.heap.size w w3 := below_own (HW1.out.alloc HW1.out.size _) (by have := HW1.out.size; simp; omega) HO.out hg3
    obtain ⟨g, cp, rfl, hbg⟩ : ∃ g cp, v3 = .slice (some ⟨g, 0, none⟩) b.length cp ∧ w.heap.size ≤ g := by
      rcases ho3.2 with ⟨_, h⟩ | ⟨g, cap, cur, h, hb, _⟩
      · omega
      · exact ⟨g, cap, by simpa using h, hb⟩
    have HO3 := Hd.mk ho3
    have HW3 := Hd.mk hb3
    clear ho3 hb3 hg3
    obtain ⟨k, hk, hkl⟩ := kval at_ b.length l0 la
    have HK := Hd.mk hk
    clear hk
    go_wp2
    rw [HK.out]
    obtain ⟨W0, rfl⟩ := Int.eq_ofNat_of_zero_le hw0
    go_loopw [9, 33] (fun t i wr => ∃ (m : Nat) (F : List UInt8) (tb : Bool) (W : Nat), m ≤ 32 ∧ i = .int .i64 m ∧ t = .bool tb ∧ Burst b F k m tb W ∧ wr.ownsRow w.heap.size 5 1 (.slice (some ⟨g, 0, none⟩) b.length cp) b.length (F.map byteV) ∧ Below w.heap.size w wr) (fun _ i _ => 32 - (intOf i).toNat)
    case atStart => exact ⟨0, b, false, 0, Nat.zero_le _, rfl, rfl, Burst.start b k, HO3.out, HW3.out⟩
    case round =>
      obtain ⟨m, F, tb, W, hm, rfl, rfl, hB, hown, hbel⟩ := hrel
      have HB := Hd.mk hB
      have HOw := Hd.mk hown
      have HBe := Hd.mk hbel
      clear hB hown hbel
      by_cases hlt : m < 32
      · clear hw0 hw1
        by_cases hn : k + m < 8 * b.length
        · obtain ⟨n, hne⟩ : ∃ n, n = k + m := ⟨_, rfl⟩
          obtain ⟨q, hq⟩ : ∃ q, q = n / 8 := ⟨_, rfl⟩
          obtain ⟨r, hr⟩ : ∃ r, r = n % 8 := ⟨_, rfl⟩
          have hqb : q < b.length := by omega
          have hr8 : r < 8 := by omega
          have hj : q < F.length := by rw [HB.out.len]; omega
          obtain ⟨d, hd⟩ : ∃ d, d = F[q].toNat := ⟨_, rfl⟩
          have hcell : wr.cell? ⟨g, q, none⟩ = some (.int .u8 (d : Int)) := by
            rw [HOw.out.cellAt _ (by omega), List.getElem?_map, List.getElem?_eq_getElem hj, hd]
            rfl
          have hdl : d < 256 := by rw [hd]; exact F[q].toNat_lt
          have hfz := HOw.out.frozenAt q
          have e8 : (n : Int) / 8 = (q : Int) := by omega
          have e9 : (n : Int).tmod 8 = (r : Int) := by rw [Int.tmod_eq_emod_of_nonneg (by omega)]; omega
          have en : (k : Int) + (m : Int) = (n : Int) := by omega
          have hn' : n < 8 * b.length := by omega
          have HD := Hd.mk hd
          have HQ := Hd.mk (And.intro hq (And.intro hr hne))
          clear hd hq hr hne hn
          go_wp2
          case roundEnd =>
            go_roundw
            case rel => exact ⟨m + 1, F, tb, W, by omega, by go_num, rfl, HB.out.skip, HOw.out, HBe.out⟩
            case measure => simp [intOf]; omega
          have ew : IntKind.i64.wrap (q : Int) = (q : Int) := IntWalk.i64_in _ (by omega)
          obtain ⟨sh, hsh⟩ : ∃ sh, sh = 2 ^ r := ⟨_, rfl⟩
          have hshl : sh < 256 := by rw [hsh]; show 2 ^ r < 2 ^ 8; exact Nat.pow_lt_pow_right (by decide) hr8
          have hx : d ^^^ sh < 256 := Nat.xor_lt_two_pow (n := 8) hdl hshl
          obtain ⟨u, hu⟩ : ∃ u : UInt8, u.toNat = d ^^^ sh := ⟨UInt8.ofNat (d ^^^ sh), by rw [UInt8.toNat_ofNat']; exact Nat.mod_eq_of_lt hx⟩
          have ex : bits .xor .u8 (d : Int) ((2 : Int) ^ r % 256) = (u.toNat : Int) := by
            have h2 : ((2 : Int) ^ r) = (sh : Int) := by rw [hsh]; simp
            rw [h2, Int.emod_eq_of_lt (by omega) (by omega), hu]
            exact u8_xor_nat d sh hdl hshl
          have HX := Hd.mk ex
          clear ex
          have HU := Hd.mk (And.intro hu hsh)
          have hst := HOw.out.stored q (byteV u)
          have HS := Hd.mk hst
          clear hu hsh hx hst
          go_still_tail 10, (by kernel_rfl)
          go_wp2
          go_roundw
          case rel =>
            obtain ⟨hq, hr, hne⟩ := HQ.out
            rw [HX.out]
            refine ⟨m + 1, F.set q u, true, W ^^^ 2 ^ m, by omega, by go_num, rfl, ?_, ?_, HBe.out.drew.setCell (by omega) _⟩
            · have h1 : (k + m) / 8 = q := by rw [hq, hne]
              have h2 : (k + m) % 8 = r := by rw [hr, hne]
              have := HB.out.turn (by omega) u (by
                rw [HU.out.1, HD.out, HU.out.2, h2]
                congr 2
                congr 1
                exact h1.symm)
              rwa [h1] at this
            · rw [List.map_set]
              exact HS.out.1
          case measure => simp [intOf]; omega
        · go_wp2
          all_goals
            go_roundw
            case rel => exact ⟨m + 1, F, tb, W, by omega, by go_num, rfl, HB.out.skip, HOw.out, HBe.out⟩
            case measure => simp [intOf]; omega
      · obtain rfl : m = 32 := by omega
        clear hw0 hw1
        have hFl : F.length = b.length := HB.out.len
        have hrow : Bytes wr (some ⟨g, 0, none⟩) F := by
          obtain ⟨A', c', e', hr, _⟩ := own_row HOw.out
          cases e'
          exact hr
        have HF := Hd.mk hFl
        have HP1 : Hd (Parts (wr.alloc (.cells #[.slice (some ⟨g, 0, none⟩) b.length cp] 22)) (some ⟨wr.heap.size, 0, none⟩) [⟨some ⟨g, 0, none⟩, cp, F⟩]) := ⟨by
          have := parts_new (w := wr) [⟨some ⟨g, 0, none⟩, cp, F⟩] 22 (by
            intro p hp
            simp only [List.mem_singleton] at hp
            subst hp
            exact ⟨hrow, by simp only; omega⟩)
          simpa [Part.v, hFl] using this⟩
        clear hFl hrow
        go_wp2_with fail
        have hx := sum_any (some ⟨wr.heap.size, 0, none⟩) 1 [⟨some ⟨g, 0, none⟩, cp, F⟩] (wr.alloc (.cells #[.slice (some ⟨g, 0, none⟩) b.length cp] 22)) HP1.out (by simp)
        refine hx.mono ?_
        clear hx
        rintro e w4 ⟨rfl, hw4⟩
        rw [show (([⟨some ⟨g, 0, none⟩, cp, F⟩] : List Part).map Part.l).flatten = F from by simp]
        have hb4 : Below w.heap.size w w4 := by rw [← hw4]; exact HBe.out.alloc HBe.out.size _
        clear hw4
        have HB4 := Hd.mk hb4
        have HP2 : Hd (Parts (w4.alloc (.cells #[.slice A b.length ca] 22)) (some ⟨w4.heap.size, 0, none⟩) [⟨A, ca, b⟩]) := ⟨parts_new [⟨A, ca, b⟩] 22 (by
          intro p hp
          simp only [List.mem_singleton] at hp
          subst hp
          exact ⟨HA.out.below hb4, by simp only; omega⟩)⟩
        clear hb4
        go_wp2_with fail
        have hx := sum_any (some ⟨w4.heap.size, 0, none⟩) 1 [⟨A, ca, b⟩] (w4.alloc (.cells #[.slice A b.length ca] 22)) HP2.out (by simp)
        refine hx.mono ?_
        clear hx
        rintro e w5 ⟨rfl, rfl⟩
        rw [show (([⟨A, ca, b⟩] : List Part).map Part.l).flatten = b from by simp]
        have hs := HB.out.sums hkl
        have hs' : ((csum F : Int) != (csum b : Int)) = tb := by
          rw [← hs]
          by_cases hq : csum F = csum b
          · simp [hq]
          · simp only [bne, ne_eq, hq, not_false_eq_true, decide_true, Bool.not_eq_eq_eq_not, Bool.not_true, beq_eq_false_iff_ne]
            omega
        clear hs
        go_wp2
        go_ret
        exact ⟨by simp, HB4.out.alloc HB4.out.size _⟩
end Go.Proofs.Ytklpodfgncabpaa
