/- The walk of Awake. -/
import Derived.Test.YtklpodfgncabpaaWalks
import Derived.Lib.SlBytesConst
namespace Go.Proofs.Ytklpodfgncabpaa
open Go.RowKit

theorem parts_nil (w : World) (A : Option Addr) : Parts w A [] := ⟨fun j h => absurd h (by simp), fun p h => absurd h (by simp)⟩

def abc : List UInt8 := [49, 50, 51, 52, 53, 54, 55, 56, 57]
theorem abc_sum : csum abc = 3421780262 := by decide +kernel
theorem nil_sum : csum [] = 0 := by decide +kernel

set_option maxHeartbeats 400000 in
theorem awake (w : World) : Calls Try.prog 7 #[] w fun e w' => e = .returned (.bool true) ∧ Below w.heap.size w w' := by
  have kc := fun (w : World) (C : Array Value) (n c : Nat) => Lib.run_convert_bytes_const (P := Try.prog) w 22 5 C n c Try.underlying22 Try.underlying5
  go_enter Try.func7, Try.ntmps7
  go_wp2_with fail
  refine (sum_any _ _ [⟨some ⟨w.heap.size, 0, none⟩, 9, abc⟩] _ ?_ (by simp)).mono ?_
  · refine ⟨?_, ?_⟩
    · refine row_block (by rw [show w.heap.size + 1 = (w.alloc (.cells #[.int .u8 49, .int .u8 50, .int .u8 51, .int .u8 52, .int .u8 53, .int .u8 54, .int .u8 55, .int .u8 56, .int .u8 57] 5 (9, 10))).heap.size from by simp]; exact heap_new _ _) ?_
      intro j hj
      obtain rfl : j = 0 := by simp at hj; omega
      rfl
    · intro p hp
      simp only [List.mem_singleton] at hp
      subst hp
      refine ⟨?_, by simp [abc]⟩
      refine row_block (by rw [heap_old _ _ _ (by simp)]; exact heap_new _ _) ?_
      intro j hj
      simp [abc] at hj
      match j, hj with
      | 0, _ | 1, _ | 2, _ | 3, _ | 4, _ | 5, _ | 6, _ | 7, _ | 8, _ => rfl
  · rintro e w' ⟨rfl, rfl⟩
    rw [show ([(⟨some ⟨w.heap.size, 0, none⟩, 9, abc⟩ : Part)].map Part.l).flatten = abc from by simp, abc_sum]
    go_wp2_with fail
    refine (sum_any _ _ [] _ (parts_nil _ _) (by simp)).mono ?_
    rintro e w' ⟨rfl, rfl⟩
    rw [show (([] : List Part).map Part.l).flatten = [] from rfl, nil_sum]
    go_wp2_with fail
    go_ret
    exact ⟨rfl, ((Below.refl _ _).alloc (Nat.le_refl _) _).alloc (by simp) _⟩
end Go.Proofs.Ytklpodfgncabpaa
