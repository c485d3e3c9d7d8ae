/- The walk of sameRows, on two rows of the same things. -/
import Derived.Test.YtdehkpdimghilaaAwake
import Derived.Test.YtdehkpdimghilaaInstB
import Derived.Laws.BytesArg
import Derived.Deep.QuietTactic
import Derived.BigQuiet
namespace Go.Proofs.Ytdehkpdimghilaa
open Go.RowKit
set_option linter.unusedSimpArgs false
set_option linter.unusedVariables false

structure Part where
  a : Option Addr
  c : Nat
  l : List UInt8
def Part.v (p : Part) : Value := .slice p.a p.l.length p.c
/-- What the parts say. -/
def Said (w : World) (ps : List Part) : Prop := ∀ p ∈ ps, Bytes w p.a p.l ∧ p.l.length ≤ 9223372036854775807

def strOf (l : List UInt8) : ByteArray := strOfNums (l.map fun c => (c.toNat : Int))
theorem conv_bytes (w : World) (A : Option Addr) (l : List UInt8) (c : Nat) (h : Bytes w A l) : (convert 28 9 (.slice A l.length c)).run Try.prog w = .ok (.string (strOf l)) w := by
  cases A with
  | none =>
    have : l = [] := by
      rcases Nat.eq_zero_or_pos l.length with h0 | h0
      · exact List.eq_nil_of_length_eq_zero h0
      · obtain ⟨_, _, e, _⟩ := h.at_ 0 h0
        cases e
    subst this
    exact run_convert_bytes_nil w 28 5 Try.underlying28 Try.underlying5 0 c 9 Try.underlying9
  | some ad =>
    have hl : (loadCells ad l.length).run Try.prog w = .ok ((l.map fun c => (c.toNat : Int)).map (Value.int .u8)).toArray w := by
      have := run_loadCells_list (P := Try.prog) w ad ((l.map fun c => (c.toNat : Int)).map (Value.int .u8)) (fun j v hj => by
        obtain ⟨hjl, rfl⟩ := List.getElem?_eq_some_iff.1 hj
        have hjl' : j < l.length := by simpa using hjl
        obtain ⟨b, off, e, hc⟩ := h.at_ j hjl'
        simp only [Option.some.injEq] at e
        subst e
        rw [show (⟨b, off, none⟩ : Addr).add j = ⟨b, off + j, none⟩ from by unfold Addr.add; split <;> simp_all, hc]
        simp)
      simpa using this
    rw [run_convert_bytes_string w 28 9 5 _ l.length c Try.underlying28 Try.underlying5 Try.underlying9, run_bytesToString w _ l.length c (l.map fun c => (c.toNat : Int)) hl, foldl_push_bytes]
    simp [strOf, strOfNums, ByteArray.empty, ByteArray.emptyWithCapacity]
    rfl
theorem Bytes.drewN {w : World} {A : Option Addr} {l : List UInt8} (h : Bytes w A l) (n : Nat) : Bytes (w.drewN n) A l := fun j hj => h j hj

set_option maxHeartbeats 800000 in
theorem same_any (A B : Option Addr) (ca cb : Nat) (ps : List Part) (w : World) (ha : Row w A (ps.map Part.v)) (hb : Row w B (ps.map Part.v)) (hs : Said w ps) (hl : ps.length ≤ 9223372036854775807) :
    Calls Try.prog 15 #[.slice A ps.length ca, .slice B ps.length cb] w fun e w' => e = .returned (.bool true) ∧ ∃ d, w' = w.drewN d := by
  have HA := Hd.mk ha
  have HB := Hd.mk hb
  have HS := Hd.mk hs
  clear ha hb hs
  go_enter Try.func15, Try.ntmps15
  go_wp2
  go_loopw [13] (fun i wz => ∃ k : Nat, k ≤ ps.length ∧ i = .int .i64 k ∧ ∃ d, wz = w.drewN d) (fun i _ => ps.length - (intOf i).toNat)
  case atStart => exact ⟨0, Nat.zero_le _, rfl, 0, rfl⟩
  case round =>
    obtain ⟨k, hk, rfl, d, rfl⟩ := hrel
    by_cases hlt : k < ps.length
    · obtain ⟨b1, o1, rfl, hc1⟩ := HA.out k (by simpa using hlt)
      obtain ⟨b2, o2, rfl, hc2⟩ := HB.out k (by simpa using hlt)
      obtain ⟨a, c, l, hp⟩ : ∃ a c l, ps[k] = ⟨a, c, l⟩ := ⟨_, _, _, rfl⟩
      have hsd := (HS.out _ (List.getElem_mem hlt)).1
      rw [List.getElem_map, hp] at hc1 hc2
      rw [hp] at hsd
      simp only [Part.v] at hc1 hc2
      have hcv := fun d => conv_bytes (w.drewN d) a l c (hsd.drewN d)
      clear hp hsd
      go_wp2
      go_quiet (fail)
      go_wp2
      go_roundw
      case rel => exact ⟨k + 1, by omega, by go_num, d + nq, rfl⟩
      case measure => simp [intOf]; omega
    · obtain rfl : k = ps.length := by omega
      go_wp2
      go_ret
      exact ⟨rfl, d, rfl⟩
end Go.Proofs.Ytdehkpdimghilaa
