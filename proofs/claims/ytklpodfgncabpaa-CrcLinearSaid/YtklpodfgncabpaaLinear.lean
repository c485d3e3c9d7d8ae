/- The walk of CrcLinear. -/
import Derived.Test.YtklpodfgncabpaaSums
import Derived.Test.YtklpodfgncabpaaRely
import Derived.Laws.Cover1
import Derived.StillTailTactics
namespace Go.Proofs.Ytklpodfgncabpaa
open Go.RowKit
set_option linter.unusedSimpArgs false
set_option linter.unusedVariables false

theorem min3 (a b c n : Nat) (hn : n = min a (min b c)) (ts : Array TypeId) (t : TypeId) (w : World) :
    (Builtin.min_ ts t #[.int .i64 (a : Int), .int .i64 (b : Int), .int .i64 (c : Int)]).run Try.prog w = .ok (.int .i64 (n : Int)) w := by
  rw [run_min_int3]
  congr 2
  subst hn
  split <;> split <;> omega

theorem crcLinear_big (A B C : Option Addr) (a b c : Nat) (ca cb cc : Nat) (w : World) (n : Nat) (hn : n = min a (min b c)) (h : 3000 < n) (ha : n ≤ maxLen) :
    Calls Try.prog 6 #[.slice A a ca, .slice B b cb, .slice C c cc] w fun e w' => e = .returned (.bool true) ∧ Below w.heap.size w w' := by
  unfold maxLen at ha
  have hmin := min3 a b c n hn
  clear hn
  go_enter Try.func6, Try.ntmps6
  go_wp2_with (go_at_call 7; refine (awake _).mono ?_; rintro e w' ⟨rfl, hb⟩)
  go_ret
  exact ⟨rfl, hb⟩

/-- The row while it is filled. -/
def fillRow (L : List UInt8) (n k : Nat) : List Value := (L.take k).map byteV ++ List.replicate (n - k) (.int .u8 0)
theorem fillRow_set (L : List UInt8) (n k : Nat) (hk : k < n) (hL : L.length = n) : (fillRow L n k).set k (byteV (L[k]'(by omega))) = fillRow L n (k + 1) := by
  unfold fillRow
  have hl : ((L.take k).map byteV).length = k := by simp; omega
  rw [List.set_append_right _ _ (by omega), hl, Nat.sub_self, show n - k = (n - (k + 1)) + 1 from by omega, List.replicate_succ, List.set_cons_zero, List.take_succ_eq_append_getElem (by omega), List.map_append]
  simp
def xor3 (a b c : List UInt8) (n : Nat) : List UInt8 := (List.range n).map fun j => a.getD j 0 ^^^ b.getD j 0 ^^^ c.getD j 0
theorem xor3_at (a b c : List UInt8) (n k : Nat) (h : k < (xor3 a b c n).length) (ha : k < a.length) (hb : k < b.length) (hc : k < c.length) : (xor3 a b c n)[k] = a[k] ^^^ b[k] ^^^ c[k] := by
  simp [xor3, List.getD_eq_getElem?_getD, List.getElem?_eq_getElem ha, List.getElem?_eq_getElem hb, List.getElem?_eq_getElem hc]
theorem xor3_zip (a b c : List UInt8) (n : Nat) (ha : n ≤ a.length) (hb : n ≤ b.length) (hc : n ≤ c.length) :
    xor3 a b c n = List.zipWith (fun p q => p ^^^ q) (List.zipWith (fun p q => p ^^^ q) (a.take n) (b.take n)) (c.take n) := by
  refine List.ext_getElem (by simp [xor3]; omega) fun k h1 h2 => ?_
  have hk : k < n := by simp [xor3] at h1; exact h1
  rw [xor3_at a b c n k h1 (by omega) (by omega) (by omega)]
  simp
theorem xor3_walk (x y z : UInt8) : Value.int .u8 (bits .xor .u8 (bits .xor .u8 (x.toNat : Int) (y.toNat : Int)) (z.toNat : Int)) = byteV (x ^^^ y ^^^ z) := by
  have := x.toNat_lt; have := y.toNat_lt; have := z.toNat_lt
  rw [u8_xor_nat _ _ (by omega) (by omega), u8_xor_nat _ _ (Nat.xor_lt_two_pow (n := 8) (by omega) (by omega)) (by omega)]
  simp [byteV]

set_option maxHeartbeats 400000 in
theorem crcLinear (A B C : Option Addr) (a b c : List UInt8) (ca cb cc : Nat) (w : World) (ha : Bytes w A a) (hb : Bytes w B b) (hc : Bytes w C c) (n : Nat) (hn : n = min a.length (min b.length c.length)) (h : n ≤ 3000)
    (hca : a.length ≤ ca) (hcb : b.length ≤ cb) (hcc : c.length ≤ cc) (ma : a.length ≤ 9223372036854775807) (mb : b.length ≤ 9223372036854775807) (mc : c.length ≤ 9223372036854775807) :
    Calls Try.prog 6 #[.slice A a.length ca, .slice B b.length cb, .slice C c.length cc] w fun e w' => e = .returned (.bool true) ∧ Below w.heap.size w w' := by
  have hmin := min3 a.length b.length c.length n hn
  obtain ⟨i0, hi, hz0, hz1, hz2⟩ := info_parts info5
  have HI0 := Hd.mk hi
  have HZ0 := Hd.mk hz0
  have HZ1 := Hd.mk hz1
  have HZ2 := Hd.mk hz2
  have HA := Hd.mk ha
  have HB := Hd.mk hb
  have HC := Hd.mk hc
  have na : n ≤ a.length := by omega
  have nb : n ≤ b.length := by omega
  have nc : n ≤ c.length := by omega
  clear ha hb hc hi hz0 hz1 hz2 hn
  go_enter Try.func6, Try.ntmps6
  go_wp2_with fail
  refine (awake _).mono ?_
  rintro e w1 ⟨rfl, hb1⟩
  have HW1 := Hd.mk hb1
  clear hb1
  go_wp2_with (first
    | (at_make; refine wpList_make_full _ rfl (.tmp 21) (.tmp 21) 22 rfl w.heap.size 5 i0 (.int .u8 0) 1 Try.underlying22 HI0.out HZ0.out HZ1.out .i64 .i64 n n n rfl rfl rfl rfl ?x1 ?x2 ?x3 ?x4))
  case x1 => rw [HZ2.out]; omega
  case x2 => unfold maxLen; omega
  case x3 => exact HW1.out.size
  case x4 =>
    intro w2 ho2 hg2
    have hb2 : Below w.heap.size w w2 := HW1.out.grown hg2 HW1.out.size (fun k hk => by cases hk)
    obtain ⟨L, hL⟩ : ∃ L, L = xor3 a b c n := ⟨_, rfl⟩
    have hLl : L.length = n := by rw [hL]; simp [xor3]
    rw [show (madeCells #[Value.int .u8 0] n).toList = fillRow L n 0 from by
      rw [toList_madeCells_one]; simp [fillRow]] at ho2
    obtain ⟨g, hg⟩ : ∃ g, g = w1.heap.size := ⟨_, rfl⟩
    rw [← hg] at ho2 ⊢
    have hgw : w.heap.size ≤ g := by rw [hg]; exact HW1.out.size
    have HL := Hd.mk hL
    have HLl := Hd.mk hLl
    have HW2 := Hd.mk hb2
    have HO2 := Hd.mk ho2
    clear hg hL hLl hb2 ho2 hg2 hmin
    go_wp2
    go_loopw [25] (fun i wr => ∃ k : Nat, k ≤ n ∧ i = .int .i64 k ∧ wr.ownsRow w.heap.size 5 1 (.slice (some ⟨g, 0, none⟩) n n) n (fillRow L n k) ∧ Below w.heap.size w wr) (fun i _ => n - (intOf i).toNat)
    case atStart => exact ⟨0, Nat.zero_le _, rfl, HO2.out, HW2.out⟩
    case round =>
      obtain ⟨k, hk, rfl, hok, hbk⟩ := hrel
      have HOk := Hd.mk hok
      have HBk := Hd.mk hbk
      clear hok hbk
      by_cases hlt : k < n
      · obtain ⟨b1, o1, rfl, hc1⟩ := (Bytes.below HA.out HBk.out).at_ k (by omega)
        obtain ⟨b2, o2, rfl, hc2⟩ := (Bytes.below HB.out HBk.out).at_ k (by omega)
        obtain ⟨b3, o3, rfl, hc3⟩ := (Bytes.below HC.out HBk.out).at_ k (by omega)
        have hcx : ∃ v, wr.cell? ⟨g, k, none⟩ = some v := by
          rw [HOk.out.cellAt k (by omega)]
          exact ⟨_, List.getElem?_eq_getElem (by rw [HOk.out.1]; omega)⟩
        obtain ⟨v0, hcx⟩ := hcx
        have hfx := HOk.out.frozenAt k
        have la : k < a.length := by omega
        have lb : k < b.length := by omega
        have lc : k < c.length := by omega
        go_wp2
        have hLk : k < L.length := by rw [HLl.out]; omega
        have hel : L[k] = a[k] ^^^ b[k] ^^^ c[k] := by
          have := HL.out
          subst this
          exact xor3_at a b c n k _ la lb lc
        have HE := Hd.mk hel
        have hst := HOk.out.stored k (byteV L[k])
        rw [fillRow_set L n k hlt HLl.out] at hst
        have HS := Hd.mk hst
        clear hel hst
        go_still_tail 17, (by kernel_rfl)
        go_wp2
        go_roundw
        case rel =>
          rw [xor3_walk, ← HE.out]
          refine ⟨k + 1, by omega, by go_num, HS.out.1, HBk.out.drew.setCell (by omega) _⟩
        case measure => simp [intOf]; omega
      · obtain rfl : n = k := by omega
        go_wp2
        have hL3 : L.length ≤ 9223372036854775807 := by rw [HLl.out]; omega
        have hrow : Bytes wr (some ⟨g, 0, none⟩) L := by
          obtain ⟨A', c', e', hr, _⟩ := own_row HOk.out
          cases e'
          have := hr
          unfold fillRow at this
          rwa [List.take_of_length_le (by rw [HLl.out]; exact Nat.le_refl _), Nat.sub_self, List.replicate_zero, List.append_nil] at this
        have HR := Hd.mk hrow
        clear hrow
        refine wp_region_rely (by kernel_rfl) (by kernel_rfl) (fun i v w' => match i with
          | 0 => v = .slice (some ⟨g, 0, none⟩) n n
          | 1 => ∃ X, v = .slice X 1 1 ∧ Parts w' X [⟨some ⟨g, 0, none⟩, n, L⟩]
          | 2 => v = .int .u32 (csum L : Nat)
          | 3 => v = .slice A a.length ca
          | 4 => v = .int .i64 n
          | 5 => v = .slice A n ca
          | 6 => ∃ X, v = .slice X 1 1 ∧ Parts w' X [⟨A, ca, a.take n⟩]
          | 7 => v = .int .u32 (csum (a.take n) : Nat)
          | 8 => v = .slice B b.length cb
          | 9 => v = .int .i64 n
          | 10 => v = .slice B n cb
          | 11 => ∃ X, v = .slice X 1 1 ∧ Parts w' X [⟨B, cb, b.take n⟩]
          | 12 => v = .int .u32 (csum (b.take n) : Nat)
          | 13 => v = .int .u32 (csum (a.take n) ^^^ csum (b.take n) : Nat)
          | 14 => v = .slice C c.length cc
          | 15 => v = .int .i64 n
          | 16 => v = .slice C n cc
          | 17 => ∃ X, v = .slice X 1 1 ∧ Parts w' X [⟨C, cc, c.take n⟩]
          | 18 => v = .int .u32 (csum (c.take n) : Nat)
          | 19 => v = .int .u32 (csum (a.take n) ^^^ csum (b.take n) ^^^ csum (c.take n) : Nat)
          | 20 => v = .bool true
          | _ => v = .bool true) (fun w1 w2 => Below w1.heap.size w1 w2) (Below.refl _ _) (fun w1 w2 w3 h1 h2 => h1.trans (h2.mono h1.size)) ?_ (n := 67) (by kernel_rfl) rfl ?_ ?_
        · intro i v w1 w2 h1 h2
          match i, h1 with
          | 0, h1 | 2, h1 | 3, h1 | 4, h1 | 5, h1 | 7, h1 | 8, h1 | 9, h1 | 10, h1 | 12, h1 | 13, h1 | 14, h1 | 15, h1 | 16, h1 | 18, h1 | 19, h1 | 20, h1 | _ + 21, h1 => exact h1
          | 1, ⟨X, e, hp⟩ | 6, ⟨X, e, hp⟩ | 11, ⟨X, e, hp⟩ | 17, ⟨X, e, hp⟩ => exact ⟨X, e, parts_below hp h2⟩
        · simp only [Obl]
          refine ⟨?_, ?_, ?_, ?_, ?_, ?_, ?_, ?_, ?_, ?_, ?_, ?_, ?_, ?_, ?_, ?_, ?_, ?_, ?_, ?_, ?_, ?_, trivial⟩
          all_goals
            intro vs w' hR hK
            simp [depsOf, Region.binds, putsOn, dstOf, Act.put, Known, seen] at hK ⊢
          case refine_1 | refine_4 | refine_5 | refine_9 | refine_10 | refine_15 | refine_16 => go_wp2; exact ⟨rfl, rfl, Below.refl _ _, rfl⟩
          case refine_2 =>
            have hb := below_undrew hR
            go_wp2
            refine ⟨rfl, rfl, (Below.refl _ _).alloc (Nat.le_refl _) _, _, rfl, ?_⟩
            have := parts_new (w := w') [⟨some ⟨g, 0, none⟩, n, L⟩] 22 (by
              intro p hp
              simp only [List.mem_singleton] at hp
              subst hp
              exact ⟨HR.out.below hb, by simp only [List.length_take, HLl.out]; omega⟩)
            simpa [Part.v, HLl.out, na, nb, nc] using this
          case refine_7 =>
            have hb := below_undrew hR
            go_wp2
            refine ⟨rfl, rfl, (Below.refl _ _).alloc (Nat.le_refl _) _, _, rfl, ?_⟩
            have := parts_new (w := w') [⟨A, ca, a.take n⟩] 22 (by
              intro p hp
              simp only [List.mem_singleton] at hp
              subst hp
              exact ⟨(Bytes.take (HA.out.below HBk.out) n).below hb, by simp only [List.length_take, HLl.out]; omega⟩)
            simpa [Part.v, HLl.out, na, nb, nc] using this
          case refine_12 =>
            have hb := below_undrew hR
            go_wp2
            refine ⟨rfl, rfl, (Below.refl _ _).alloc (Nat.le_refl _) _, _, rfl, ?_⟩
            have := parts_new (w := w') [⟨B, cb, b.take n⟩] 22 (by
              intro p hp
              simp only [List.mem_singleton] at hp
              subst hp
              exact ⟨(Bytes.take (HB.out.below HBk.out) n).below hb, by simp only [List.length_take, HLl.out]; omega⟩)
            simpa [Part.v, HLl.out, na, nb, nc] using this
          case refine_18 =>
            have hb := below_undrew hR
            go_wp2
            refine ⟨rfl, rfl, (Below.refl _ _).alloc (Nat.le_refl _) _, _, rfl, ?_⟩
            have := parts_new (w := w') [⟨C, cc, c.take n⟩] 22 (by
              intro p hp
              simp only [List.mem_singleton] at hp
              subst hp
              exact ⟨(Bytes.take (HC.out.below HBk.out) n).below hb, by simp only [List.length_take, HLl.out]; omega⟩)
            simpa [Part.v, HLl.out, na, nb, nc] using this
          case refine_3 =>
            obtain ⟨X, hX, hp⟩ := hK
            have HP := Hd.mk hp
            clear hp
            go_wp2_with fail
            refine (sum_any X 1 [⟨some ⟨g, 0, none⟩, n, L⟩] _ HP.out (by simp)).mono ?_
            rintro e w'' ⟨rfl, rfl⟩
            go_wp2
            exact ⟨rfl, rfl, Below.refl _ _, by simp⟩
          case refine_8 =>
            obtain ⟨⟨X, hX, hp⟩, -⟩ := hK
            have HP := Hd.mk hp
            clear hp
            go_wp2_with fail
            refine (sum_any X 1 [⟨A, ca, a.take n⟩] _ HP.out (by simp)).mono ?_
            rintro e w'' ⟨rfl, rfl⟩
            go_wp2
            exact ⟨rfl, rfl, Below.refl _ _, by simp⟩
          case refine_13 =>
            obtain ⟨⟨X, hX, hp⟩, -⟩ := hK
            have HP := Hd.mk hp
            clear hp
            go_wp2_with fail
            refine (sum_any X 1 [⟨B, cb, b.take n⟩] _ HP.out (by simp)).mono ?_
            rintro e w'' ⟨rfl, rfl⟩
            go_wp2
            exact ⟨rfl, rfl, Below.refl _ _, by simp⟩
          case refine_19 =>
            obtain ⟨⟨X, hX, hp⟩, -⟩ := hK
            have HP := Hd.mk hp
            clear hp
            go_wp2_with fail
            refine (sum_any X 1 [⟨C, cc, c.take n⟩] _ HP.out (by simp)).mono ?_
            rintro e w'' ⟨rfl, rfl⟩
            go_wp2
            exact ⟨rfl, rfl, Below.refl _ _, by simp⟩
          case refine_6 | refine_11 | refine_17 =>
            obtain ⟨h1, h2⟩ := hK
            go_wp2
            exact ⟨rfl, rfl, Below.refl _ _, rfl⟩
          case refine_14 =>
            obtain ⟨h1, h2⟩ := hK
            have e := u32_xor_nat (csum (a.take n)) (csum (b.take n)) (csum_lt _) (csum_lt _)
            go_wp2
            exact ⟨rfl, rfl, Below.refl _ _, rfl⟩
          case refine_20 =>
            obtain ⟨h1, h2⟩ := hK
            have e := u32_xor_nat (csum (a.take n) ^^^ csum (b.take n)) (csum (c.take n)) (Nat.xor_lt_two_pow (n := 32) (csum_lt _) (csum_lt _)) (csum_lt _)
            go_wp2
            exact ⟨rfl, rfl, Below.refl _ _, rfl⟩
          case refine_21 =>
            obtain ⟨h1, h2⟩ := hK
            have e : csum L = csum (a.take n) ^^^ csum (b.take n) ^^^ csum (c.take n) := by
              rw [HL.out, xor3_zip a b c n na nb nc]
              exact csum_xor3 _ _ _ (by simp; omega) (by simp; omega)
            have e' : ((csum L : Int) == ((csum (a.take n) ^^^ csum (b.take n) ^^^ csum (c.take n) : Nat) : Int)) = true := by rw [e]; exact beq_self_eq_true _
            clear e
            go_wp2
            exact ⟨rfl, rfl, Below.refl _ _, rfl⟩
          case refine_22 =>
            have h20 := hK.1
            clear hK
            go_wp2
            exact ⟨rfl, rfl, Below.refl _ _, h20⟩
        · intro vs w' hR hK
          have h21 : vs 21 = .bool true := by
            simp [Known, List.range, List.range.loop] at hK
            exact hK.2.2.2.2.2.2.2.2.2.2.2.2.2.2.2.2.2.2.2.2.2
          clear hK
          simp [putsOn, dstOf, Act.put, List.range, List.range.loop]
          go_wp2
          go_ret
          exact ⟨by simp [h21], (HBk.out.drew).trans (hR.mono HBk.out.drew.size)⟩
end Go.Proofs.Ytklpodfgncabpaa
