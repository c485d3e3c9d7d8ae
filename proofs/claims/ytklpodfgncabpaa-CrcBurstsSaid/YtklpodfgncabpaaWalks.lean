/- The walks of the cyclic sums. -/
import Derived.Test.YtklpodfgncabpaaProg
import Derived.Test.YtklpodfgncabpaaPure
import Derived.Test.YtklpodfgncabpaaWords
import Derived.KernelRfl
namespace Go.Proofs.Ytklpodfgncabpaa
open Go.RowKit

theorem u32_xor_cast (a b : Nat) (ha : a < 4294967296) (hb : b < 4294967296) : bits .xor .u32 (a : Int) (b : Int) = ((a ^^^ b : Nat) : Int) := u32_xor_nat a b ha hb


structure Part where
  a : Option Addr
  c : Nat
  l : List UInt8
def Part.v (p : Part) : Value := .slice p.a p.l.length p.c
def Parts (w : World) (A : Option Addr) (ps : List Part) : Prop := Row w A (ps.map Part.v) ∧ ∀ p ∈ ps, Bytes w p.a p.l ∧ p.l.length ≤ 9223372036854775807

theorem Parts.at_ {w : World} {A : Option Addr} {ps : List Part} (h : Parts w A ps) (j : Nat) (hj : j < ps.length) :
    ∃ b off, A = some ⟨b, off, none⟩ ∧ w.cell? ⟨b, off + j, none⟩ = some (.slice ps[j].a ps[j].l.length ps[j].c) ∧ Bytes w ps[j].a ps[j].l ∧ ps[j].l.length ≤ 9223372036854775807 := by
  obtain ⟨b, off, e, hc⟩ := h.1 j (by simpa using hj)
  exact ⟨b, off, e, by rw [hc]; simp [Part.v], h.2 _ (List.getElem_mem hj)⟩

theorem poly_and (b : Nat) (hb : b < 2) : bits .and .u32 3988292384 (-(b : Int) % 4294967296) = ((if b = 1 then 3988292384 else 0 : Nat) : Int) := by
  have : b = 0 ∨ b = 1 := by omega
  rcases this with rfl | rfl <;> decide +kernel
theorem cstep_walk (V : Nat) (h : V < 4294967296) :
    bits BinOp.xor IntKind.u32 ((V : Int) / 2) (bits BinOp.and IntKind.u32 3988292384 (-bits BinOp.and IntKind.u32 (V : Int) 1 % 4294967296)) = (cstep V : Nat) := by
  have e1 : bits BinOp.and IntKind.u32 (V : Int) 1 = ((V % 2 : Nat) : Int) := by
    rw [show (1 : Int) = ((1 : Nat) : Int) from rfl, u32_and_nat V 1 h (by omega), Nat.and_one_is_mod]
  rw [e1, poly_and _ (by omega), show ((V : Int) / 2) = ((V / 2 : Nat) : Int) by omega, u32_xor_nat _ _ (by omega) (by split <;> omega)]
  rfl
theorem cbytes_snoc (X : Nat) (l : List UInt8) (j : Nat) (h : j < l.length) : cbytes X (l.take (j + 1)) = csteps 8 (cbytes X (l.take j) ^^^ l[j].toNat) := by
  rw [List.take_succ_eq_append_getElem h, cbytes_append]; rfl
theorem flat_snoc (ps : List Part) (k : Nat) (h : k < ps.length) : ((ps.take (k + 1)).map Part.l).flatten = ((ps.take k).map Part.l).flatten ++ ps[k].l := by
  rw [List.take_succ_eq_append_getElem h, List.map_append, List.flatten_append]; simp

set_option maxHeartbeats 400000 in
theorem sum_any (A : Option Addr) (c : Nat) (ps : List Part) (w : World) (h : Parts w A ps) (hl : ps.length ≤ 9223372036854775807) :
    Calls Try.prog 8 #[.slice A ps.length c] w fun e w' => e = .returned (.int .u32 (csum (ps.map Part.l).flatten : Nat)) ∧ w = w' := by
  have H := Hd.mk h
  clear h
  go_enter Try.func8, Try.ntmps8
  go_wp2
  go_loop [3, 10] (fun x i => ∃ k : Nat, k ≤ ps.length ∧ i = .int .i64 k ∧ x = .int .u32 (cbytes 4294967295 ((ps.take k).map Part.l).flatten : Nat)) (fun _ i => ps.length - (intOf i).toNat)
  case atStart => exact ⟨0, Nat.zero_le _, rfl, rfl⟩
  case round =>
    obtain ⟨k, hk, rfl, rfl⟩ := hrel
    obtain ⟨X, hX⟩ : ∃ X, X = cbytes 4294967295 ((ps.take k).map Part.l).flatten := ⟨_, rfl⟩
    rw [← hX]
    have hXl : X < 4294967296 := by rw [hX]; exact cbytes_lt _ (by decide)
    have HX := Hd.mk hX
    clear hX
    by_cases hlt : k < ps.length
    · obtain ⟨b, off, rfl, hc, hb, hbl⟩ := H.out.at_ k hlt
      obtain ⟨a2, c2, l2, hp⟩ : ∃ a2 c2 l2, ps[k] = ⟨a2, c2, l2⟩ := ⟨_, _, _, rfl⟩
      rw [hp] at hc hb hbl
      have HB := Hd.mk hb
      have HP := Hd.mk hp
      clear hb hp
      go_wp2
      go_loop [3, 16] (fun x i => ∃ j : Nat, j ≤ l2.length ∧ i = .int .i64 j ∧ x = .int .u32 (cbytes X (l2.take j) : Nat)) (fun _ i => l2.length - (intOf i).toNat)
      case atStart => exact ⟨0, Nat.zero_le _, rfl, rfl⟩
      case round =>
        obtain ⟨j, hj, rfl, rfl⟩ := hrel
        obtain ⟨Y, hY⟩ : ∃ Y, Y = cbytes X (l2.take j) := ⟨_, rfl⟩
        rw [← hY]
        have hYl : Y < 4294967296 := by rw [hY]; exact cbytes_lt _ hXl
        have HY := Hd.mk hY
        clear hY
        by_cases hlt2 : j < l2.length
        · obtain ⟨b2, off2, rfl, hc2⟩ := HB.out.at_ j hlt2
          obtain ⟨d, hd⟩ : ∃ d, d = l2[j].toNat := ⟨_, rfl⟩
          rw [← hd] at hc2
          have hcl : d < 256 := by rw [hd]; exact l2[j].toNat_lt
          have HD := Hd.mk hd
          clear hd
          obtain ⟨Z, hZ⟩ : ∃ Z, Z = Y ^^^ d := ⟨_, rfl⟩
          have e0 : bits BinOp.xor IntKind.u32 (Y : Int) (d : Int) = (Z : Int) := by rw [hZ]; exact u32_xor_cast _ _ hYl (by omega)
          have hZl : Z < 4294967296 := by rw [hZ]; exact Nat.xor_lt_two_pow (n := 32) hYl (by omega)
          have HZ := Hd.mk hZ
          clear hZ hYl
          go_wp2
          go_loop [3, 24] (fun x i => ∃ m : Nat, m ≤ 8 ∧ i = .int .i64 m ∧ x = .int .u32 (csteps m Z : Nat)) (fun _ i => 8 - (intOf i).toNat)
          case atStart => exact ⟨0, by omega, rfl, rfl⟩
          case round =>
            obtain ⟨m, hm, rfl, rfl⟩ := hrel
            obtain ⟨V, hV⟩ : ∃ V, V = csteps m Z := ⟨_, rfl⟩
            rw [← hV]
            have hVl : V < 4294967296 := by rw [hV]; exact csteps_lt _ hZl
            have HV := Hd.mk hV
            clear hV
            by_cases hlt3 : m < 8
            · go_wp2
              go_round
              case rel => 
                refine ⟨m + 1, by omega, by go_num, ?_⟩
                rw [cstep_walk V hVl, csteps_succ, HV.out]
              case measure => simp [intOf]; omega
            · obtain rfl : m = 8 := by omega
              clear e0 hZl hcl hVl
              go_wp2
              go_round
              case rel =>
                refine ⟨j + 1, by omega, by go_num, ?_⟩
                rw [HV.out, HZ.out, HY.out, cbytes_snoc X l2 j hlt2, HD.out]
              case measure => simp [intOf]; omega
        · obtain rfl : j = l2.length := by omega
          go_wp2
          go_round
          case rel =>
            refine ⟨k + 1, by omega, by go_num, ?_⟩
            rw [HY.out, HX.out, flat_snoc ps k hlt, cbytes_append, HP.out, List.take_length]
          case measure => simp [intOf]; omega
    · obtain rfl : k = ps.length := by omega
      go_wp2
      go_ret
      refine ⟨ret_int ?_, rfl⟩
      rw [show IntKind.u32.max = ((4294967295 : Nat) : Int) from by decide +kernel, u32_xor_nat _ _ (by decide) hXl, HX.out, List.take_length, Nat.xor_comm]
      rfl
end Go.Proofs.Ytklpodfgncabpaa
