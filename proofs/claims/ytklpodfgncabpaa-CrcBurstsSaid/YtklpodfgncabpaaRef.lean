/- The walk of the document's sum. -/
import Derived.Test.YtklpodfgncabpaaAwake
namespace Go.Proofs.Ytklpodfgncabpaa
open Go.RowKit

set_option maxHeartbeats 400000 in
theorem ref_any (A : Option Addr) (c : Nat) (l : List UInt8) (w : World) (h : Bytes w A l) (hl : l.length ≤ 9223372036854775807) :
    Calls Try.prog 9 #[.slice A l.length c] w fun e w' => e = .returned (.int .u32 (csum l : Nat)) ∧ w = w' := by
  have H := Hd.mk h
  clear h
  go_enter Try.func9, Try.ntmps9
  go_wp2
  go_loop [3, 4] (fun x i => ∃ k : Nat, k ≤ l.length ∧ i = .int .i64 k ∧ x = .int .u32 (cbytes 4294967295 (l.take k) : Nat)) (fun _ i => l.length - (intOf i).toNat)
  case atStart => exact ⟨0, Nat.zero_le _, rfl, rfl⟩
  case round =>
    obtain ⟨j, hj, rfl, rfl⟩ := hrel
    obtain ⟨Y, hY⟩ : ∃ Y, Y = cbytes 4294967295 (l.take j) := ⟨_, rfl⟩
    rw [← hY]
    have hYl : Y < 4294967296 := by rw [hY]; exact cbytes_lt _ (by decide)
    have HY := Hd.mk hY
    clear hY
    by_cases hlt2 : j < l.length
    · obtain ⟨b2, off2, rfl, hc2⟩ := H.out.at_ j hlt2
      obtain ⟨d, hd⟩ : ∃ d, d = l[j].toNat := ⟨_, rfl⟩
      rw [← hd] at hc2
      have hcl : d < 256 := by rw [hd]; exact l[j].toNat_lt
      have HD := Hd.mk hd
      clear hd
      obtain ⟨Z, hZ⟩ : ∃ Z, Z = Y ^^^ d := ⟨_, rfl⟩
      have e0 : bits BinOp.xor IntKind.u32 (Y : Int) (d : Int) = (Z : Int) := by rw [hZ]; exact u32_xor_cast _ _ hYl (by omega)
      have hZl : Z < 4294967296 := by rw [hZ]; exact Nat.xor_lt_two_pow (n := 32) hYl (by omega)
      have HZ := Hd.mk hZ
      clear hZ hYl
      go_wp2
      go_loop [3, 5] (fun x i => ∃ m : Nat, m ≤ 8 ∧ i = .int .i64 m ∧ x = .int .u32 (csteps m Z : Nat)) (fun _ i => 8 - (intOf i).toNat)
      case atStart => exact ⟨0, by omega, rfl, rfl⟩
      case round =>
        obtain ⟨m, hm, rfl, rfl⟩ := hrel
        obtain ⟨V, hV⟩ : ∃ V, V = csteps m Z := ⟨_, rfl⟩
        rw [← hV]
        have hVl : V < 4294967296 := by rw [hV]; exact csteps_lt _ hZl
        have HV := Hd.mk hV
        clear hV
        by_cases hlt3 : m < 8
        · by_cases hodd : V % 2 = 1
          · have hb : ((V : Int) % 2 == 1) = true := by rw [beq_iff_eq]; omega
            go_wp2
            go_round
            case rel => 
              refine ⟨m + 1, by omega, by go_num, ?_⟩
              rw [csteps_succ, ← HV.out, cstep, if_pos hodd, ← u32_xor_nat _ _ (by omega) (by decide)]
              go_num
            case measure => simp [intOf]; omega
          · have hb : ((V : Int) % 2 == 1) = false := by rw [beq_eq_false_iff_ne]; omega
            go_wp2
            go_round
            case rel => 
              refine ⟨m + 1, by omega, by go_num, ?_⟩
              rw [csteps_succ, ← HV.out, cstep, if_neg hodd, Nat.xor_zero]
              go_num
            case measure => simp [intOf]; omega
        · obtain rfl : m = 8 := by omega
          clear e0 hZl hcl hVl
          go_wp2
          go_round
          case rel =>
            refine ⟨j + 1, by omega, by go_num, ?_⟩
            rw [HV.out, HZ.out, HY.out, cbytes_snoc _ l j hlt2, HD.out]
          case measure => simp [intOf]; omega
    · obtain rfl : j = l.length := by omega
      go_wp2
      go_ret
      refine ⟨ret_int ?_, rfl⟩
      rw [show (4294967295 : Int) = ((4294967295 : Nat) : Int) from rfl, u32_xor_nat _ _ hYl (by decide), HY.out, List.take_length]
      rfl
end Go.Proofs.Ytklpodfgncabpaa
