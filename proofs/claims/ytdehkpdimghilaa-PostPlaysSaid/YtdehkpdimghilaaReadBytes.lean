/- Arguments that are slices of bytes. No program in sight. -/
import Derived.Test.YtdehkpdimghilaaReads
namespace Go.Proofs.Ytdehkpdimghilaa
open Go.RowKit
def toByte (n : Int) : UInt8 := UInt8.ofNat n.toNat
theorem byte_of {n : Int} (h : (Lit.int .u8 n).wf = true) : 0 ≤ n ∧ n < 256 := by
  simp [Lit.wf, IntKind.min, IntKind.max, IntKind.bits, IntKind.signed] at h
  omega
theorem byteV_of {n : Int} (h : (Lit.int .u8 n).wf = true) : byteV (toByte n) = .int .u8 n := by
  have := byte_of h
  simp only [byteV, toByte]
  congr 1
  simp
  omega
theorem bytes_of_rd {w : World} {s : Sl Int} (h : Ty.Rd w (.slice (.int .u8)) s) : Bytes w s.a (s.l.map toByte) ∧ s.l.length ≤ 9223372036854775807 ∧ s.l.length ≤ s.c := by
  obtain ⟨h1, h2, h3, h4⟩ := h
  unfold maxLen at h2
  refine ⟨?_, by omega, h1⟩
  unfold Bytes
  have e : (s.l.map toByte).map byteV = s.l.flatMap (Ty.cells (.int .u8)) := by
    rw [List.map_map, Ty.flat_one (Ty.cells (.int .u8)) (Value.int .u8) (fun _ => rfl) s.l]
    refine List.map_congr_left fun n hn => ?_
    exact byteV_of (h4 n hn)
  rw [e]
  exact h3
end Go.Proofs.Ytdehkpdimghilaa
