/- The next job. -/
import Derived.Test.YtjampaggidelgaaNew
namespace Go.Proofs.Ytjampaggidelgaa
open Go.RowKit
set_option linter.unusedSimpArgs false
set_option linter.unusedVariables false

def Job.free (j : Job) (now : Nat) : Bool := !j.done && j.lease == 0 && decide (j.ready ≤ now)
/-- The closure that Next hands over: a box of 'now'. -/
theorem free_any (j : Job) (now b : Nat) (w : World) (hb : w.cell? ⟨b, 0, none⟩ = some (.int .u64 now)) :
    Calls Try.prog 28 #[.agg #[.bool j.done, .int .u64 j.lease, .int .u64 j.deadline, .int .i64 j.tries, .int .u64 j.ready], .pointer (some ⟨b, 0, none⟩)] w fun e w' => e = .returned (.bool (j.free now)) ∧ Below w.heap.size w w' := by
  have hlt : b < w.heap.size := World.block_lt_of_cell? w ⟨b, 0, none⟩ hb
  have hne : ¬ w.heap.size = b := by omega
  have hne2 : ¬ b = w.heap.size := by omega
  obtain ⟨dn, le, dl, tr, rd⟩ := j
  simp only
  cases dn with
  | true =>
    go_enter Try.func28, Try.ntmps28
    go_wp2
    go_ret
    exact ⟨rfl, (Below.refl _ _).alloc (Nat.le_refl _) _⟩
  | false =>
    by_cases h1 : le = 0
    · subst h1
      by_cases h2 : rd ≤ now
      · have e : Job.free ⟨false, 0, dl, tr, rd⟩ now = true := by simp [Job.free, h2]
        have h2' : (rd : Int) ≤ (now : Int) := by omega
        rw [e]
        clear e h2
        go_enter Try.func28, Try.ntmps28
        go_wp2
        go_ret
        exact ⟨rfl, (Below.refl _ _).alloc (Nat.le_refl _) _⟩
      · have e : Job.free ⟨false, 0, dl, tr, rd⟩ now = false := by simp [Job.free, h2]
        have h2' : ¬ (rd : Int) ≤ (now : Int) := by omega
        rw [e]
        clear e h2
        go_enter Try.func28, Try.ntmps28
        go_wp2
        go_ret
        exact ⟨rfl, (Below.refl _ _).alloc (Nat.le_refl _) _⟩
    · have e : Job.free ⟨false, le, dl, tr, rd⟩ now = false := by simp [Job.free, h1]
      have h1' : ((le : Int) == 0) = false := beq_eq_false_iff_ne.2 (by omega)
      rw [e]
      clear e h1
      go_enter Try.func28, Try.ntmps28
      go_wp2
      go_ret
      exact ⟨rfl, (Below.refl _ _).alloc (Nat.le_refl _) _⟩
/-- The first that waits. -/
def firstFree (js : List Job) (now : Nat) : Option Nat := js.findIdx? (·.free now)
def firstV (o : Option Nat) : Int := match o with | some i => i | none => -1
set_option maxHeartbeats 800000 in
theorem index_any (p B : Nat) (js : List Job) (t : Times) (last now b : Nat) (w : World) (h : TabAt w p B js t last) (hb : w.cell? ⟨b, 0, none⟩ = some (.int .u64 now)) :
    Calls Try.prog 27 #[.slice (some ⟨B, 0, none⟩) js.length js.length, .func (.func 28) #[] #[.pointer (some ⟨b, 0, none⟩)]] w fun e w' => e = .returned (.int .i64 (firstV (firstFree js now))) ∧ Below w.heap.size w w' := by
  have H := Hd.mk h
  have HB := Hd.mk hb
  have hsm := h.small
  clear h hb
  go_enter Try.func27, Try.ntmps27
  go_wp2
  go_loopw [8] (fun i wz => ∃ k : Nat, k ≤ js.length ∧ i = .int .i64 k ∧ (∀ x ∈ js.take k, x.free now = false) ∧ Below w.heap.size w wz) (fun i _ => js.length - (intOf i).toNat)
  case atStart => exact ⟨0, Nat.zero_le _, rfl, by simp, Below.refl _ _⟩
  case round =>
    obtain ⟨k, hk, rfl, hall, hbel⟩ := hrel
    have HA := Hd.mk hall
    have HL := Hd.mk hbel
    clear hall hbel
    by_cases hlt : k < js.length
    · have ht := H.out.old HL.out
      have d0 : wr.cell? ⟨B, k * 5, none⟩ = some (.bool js[k].done) := ht.cellBody k hlt 0 (by omega)
      have d1 : wr.cell? ⟨B, k * 5 + 1, none⟩ = some (.int .u64 js[k].lease) := ht.cellBody k hlt 1 (by omega)
      have d2 : wr.cell? ⟨B, k * 5 + 2, none⟩ = some (.int .u64 js[k].deadline) := ht.cellBody k hlt 2 (by omega)
      have d3 : wr.cell? ⟨B, k * 5 + 3, none⟩ = some (.int .i64 js[k].tries) := ht.cellBody k hlt 3 (by omega)
      have d4 : wr.cell? ⟨B, k * 5 + 4, none⟩ = some (.int .u64 js[k].ready) := ht.cellBody k hlt 4 (by omega)
      clear ht
      go_wp2_with fail
      have hy := free_any js[k] now b wr ((HL.out.cell (p := ⟨b, 0, none⟩) (World.block_lt_of_cell? w ⟨b, 0, none⟩ HB.out)).trans HB.out)
      refine hy.mono ?_
      clear hy
      rintro e w2 ⟨rfl, hbl⟩
      have HL2 : Hd (Below w.heap.size w w2) := ⟨HL.out.trans (hbl.mono HL.out.size)⟩
      clear hbl d0 d1 d2 d3 d4
      cases hf : js[k].free now with
      | true =>
        have HF := Hd.mk hf
        clear hf
        go_wp2
        go_ret
        refine ⟨?_, HL2.out⟩
        have e1 : firstFree js now = some k := by
          unfold firstFree
          rw [List.findIdx?_eq_some_iff_getElem]
          refine ⟨hlt, HF.out, fun j hj => ?_⟩
          have := HA.out js[j] (List.mem_iff_getElem.2 ⟨j, by simp; omega, by simp⟩)
          simp [this]
        rw [e1]
        rfl
      | false =>
        have HF := Hd.mk hf
        clear hf
        go_wp2
        go_roundw
        case rel =>
          refine ⟨k + 1, by omega, by go_num, ?_, HL2.out⟩
          intro x hx
          rw [List.take_succ_eq_append_getElem hlt] at hx
          rcases List.mem_append.1 hx with h1 | h1
          · exact HA.out x h1
          · rw [List.mem_singleton.1 h1]; exact HF.out
        case measure => simp [intOf]; omega
    · obtain rfl : k = js.length := by omega
      go_wp2
      go_ret
      refine ⟨?_, HL.out⟩
      have e1 : firstFree js now = none := by
        unfold firstFree
        rw [List.findIdx?_eq_none_iff]
        intro x hx
        exact HA.out x (by simpa using hx)
      rw [e1]
      rfl
theorem next_nil (now : Int) (w : World) : Calls Try.prog 12 #[.pointer none, .int .u64 now] w fun e w' => e = .returned (.tuple #[.int .i64 0, .int .u64 0, .bool false]) ∧ Below w.heap.size w w' := by
  go_enter Try.func12, Try.ntmps12
  go_wp2
  go_ret3
  exact ⟨rfl, (Below.refl _ _).alloc (Nat.le_refl _) _⟩
theorem cell_new (w : World) (v : Value) (t : TypeId) : (w.alloc (.cells #[v] t)).cell? ⟨w.heap.size, 0, none⟩ = some v := by
  unfold World.cell?
  rw [heap_new]
  rfl
set_option maxHeartbeats 1600000 in
theorem next_none (p B : Nat) (js : List Job) (t : Times) (last now : Nat) (w : World) (h : TabAt w p B js t last) (hn : now ≤ 1099511627776) (hl : last < 18446744073709551615) (hf : firstFree js now = none) :
    Calls Try.prog 12 #[.pointer (some ⟨p, 0, none⟩), .int .u64 now] w fun e w' => e = .returned (.tuple #[.int .i64 0, .int .u64 0, .bool false]) ∧ Below w.heap.size w w' := by
  have hlt := h.lt
  have c0 : w.cell? ⟨p, 0, none⟩ = some (.slice (some ⟨B, 0, none⟩) js.length js.length) := h.cellHead 0 (by omega)
  have c4 : w.cell? ⟨p, 4, none⟩ = some (.int .u64 last) := h.cellHead 4 (by omega)
  have hne : ¬ w.heap.size = p := by omega
  have hne2 : ¬ p = w.heap.size := by omega
  have h1 : ¬ (1099511627776 : Int) < (now : Int) := by omega
  have h2 : ((last : Int) == 18446744073709551615) = false := beq_eq_false_iff_ne.2 (by omega)
  have H := Hd.mk h
  have HF := Hd.mk hf
  clear h hn hl hf
  go_enter Try.func12, Try.ntmps12
  go_wp2_with fail
  have hb1 : Below w.heap.size w (w.alloc (.cells #[.int .u64 now] 22)) := (Below.refl _ _).alloc (Nat.le_refl _) _
  have hy := index_any p B js t last now w.heap.size _ (H.out.old hb1) (cell_new w (.int .u64 now) 22)
  rw [HF.out] at hy
  have HB := Hd.mk hb1
  clear hb1
  refine hy.mono ?_
  clear hy
  rintro e w2 ⟨rfl, hb2⟩
  have HB2 : Hd (Below w.heap.size w w2) := ⟨HB.out.trans (hb2.mono HB.out.size)⟩
  clear hb2
  rw [show firstV none = -1 from rfl]
  go_wp2
  go_ret3
  exact ⟨rfl, HB2.out⟩
end Go.Proofs.Ytjampaggidelgaa
