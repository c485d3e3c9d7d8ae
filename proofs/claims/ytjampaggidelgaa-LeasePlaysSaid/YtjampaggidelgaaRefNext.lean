/- The document's table: the next job. -/
import Derived.Test.YtjampaggidelgaaRefExpire
namespace Go.Proofs.Ytjampaggidelgaa
open Go.RowKit
set_option linter.unusedSimpArgs false
set_option linter.unusedVariables false

theorem next_late (p B : Nat) (js : List Job) (t : Times) (last now : Nat) (w : World) (h : TabAt w p B js t last) (hn : 1099511627776 < now ∨ last = 18446744073709551615) :
    Calls Try.prog 12 #[.pointer (some ⟨p, 0, none⟩), .int .u64 now] w fun e w' => e = .returned (.tuple #[.int .i64 0, .int .u64 0, .bool false]) ∧ Below w.heap.size w w' := by
  have hlt := h.lt
  have c4 : w.cell? ⟨p, 4, none⟩ = some (.int .u64 last) := h.cellHead 4 (by omega)
  have hne : ¬ w.heap.size = p := by omega
  have hne2 : ¬ p = w.heap.size := by omega
  clear h
  by_cases h1 : 1099511627776 < now
  · have h1' : (1099511627776 : Int) < (now : Int) := by omega
    clear hn h1
    go_enter Try.func12, Try.ntmps12
    go_wp2
    go_ret3
    exact ⟨rfl, (Below.refl _ _).alloc (Nat.le_refl _) _⟩
  · have h1' : ¬ (1099511627776 : Int) < (now : Int) := by omega
    have h2 : ((last : Int) == 18446744073709551615) = true := by rw [beq_iff_eq]; omega
    clear hn h1
    go_enter Try.func12, Try.ntmps12
    go_wp2
    go_ret3
    exact ⟨rfl, (Below.refl _ _).alloc (Nat.le_refl _) _⟩
theorem ref_next_late (p B : Nat) (js : List Job) (t : Times) (last now : Nat) (w : World) (h : RefAt w p B js t last) (hn : 1099511627776 < now ∨ last = 18446744073709551615) :
    Calls Try.prog 19 #[.pointer (some ⟨p, 0, none⟩), .int .u64 now] w fun e w' => e = .returned (.tuple #[.int .i64 0, .int .u64 0, .bool false]) ∧ Below w.heap.size w w' := by
  have c4 : w.cell? ⟨p, 4, none⟩ = some (.int .u64 last) := h.cellHead 4 (by omega)
  clear h
  by_cases h1 : 1099511627776 < now
  · have h1' : (1099511627776 : Int) < (now : Int) := by omega
    clear hn h1
    go_enter Try.func19, Try.ntmps19
    go_wp2
    go_ret3
    exact ⟨rfl, Below.refl _ _⟩
  · have h1' : ¬ (1099511627776 : Int) < (now : Int) := by omega
    have h2 : ((last : Int) == 18446744073709551615) = true := by rw [beq_iff_eq]; omega
    clear hn h1
    go_enter Try.func19, Try.ntmps19
    go_wp2
    go_ret3
    exact ⟨rfl, Below.refl _ _⟩
/-- What the call says: the first free one. -/
def NextPost (w : World) (p B : Nat) (js : List Job) (t : Times) (last now : Nat) (e : Ending) (w' : World) : Prop := match firstFree js now with
  | none => e = .returned (.tuple #[.int .i64 0, .int .u64 0, .bool false]) ∧ Below w.heap.size w w'
  | some i => e = .returned (.tuple #[.int .i64 i, .int .u64 (last + 1), .bool true]) ∧ Kept w w' p B ∧ ∃ h : i < js.length, RefAt w' p B (js.set i { js[i] with lease := last + 1, deadline := now + t.lease, tries := min (js[i].tries + 1) 64 }) t (last + 1)
set_option maxHeartbeats 1600000 in
theorem ref_next (p B : Nat) (js : List Job) (t : Times) (last now : Nat) (w : World) (h : RefAt w p B js t last) (hn : now ≤ 1099511627776) (hl : last < 18446744073709551615) :
    Calls Try.prog 19 #[.pointer (some ⟨p, 0, none⟩), .int .u64 now] w (NextPost w p B js t last now) := by
  have c4 : w.cell? ⟨p, 4, none⟩ = some (.int .u64 last) := h.cellHead 4 (by omega)
  have hlt := h.lt
  have hsm := h.small
  have hneB := h.ne
  have h1 : ¬ (1099511627776 : Int) < (now : Int) := by omega
  have h2 : ((last : Int) == 18446744073709551615) = false := beq_eq_false_iff_ne.2 (by omega)
  have H := Hd.mk h
  have HN := Hd.mk (And.intro hn hl)
  clear h hn hl
  go_enter Try.func19, Try.ntmps19
  go_wp2_with fail
  clear c4
  go_loopw [7] (fun i wr => ∃ k : Nat, k ≤ js.length ∧ i = .int .i64 k ∧ (∀ x ∈ js.take k, x.free now = false) ∧ Below w.heap.size w wr) (fun i _ => js.length - (intOf i).toNat)
  case atStart => exact ⟨0, Nat.zero_le _, rfl, by simp, Below.refl _ _⟩
  case round =>
    obtain ⟨k, hk, rfl, hall, hbel⟩ := hrel
    have HA := Hd.mk hall
    have HL := Hd.mk hbel
    clear hall hbel
    have HT := Hd.mk (H.out.old HL.out)
    have c0 : wr.cell? ⟨p, 0, none⟩ = some (.slice (some ⟨B, 0, none⟩) js.length js.length) := HT.out.cellHead 0 (by omega)
    by_cases hlt2 : k < js.length
    · have hsz := HL.out.size
      obtain ⟨dn, le, dl, tr, rd, hj⟩ : ∃ dn le dl tr rd, js[k] = ⟨dn, le, dl, tr, rd⟩ := ⟨_, _, _, _, _, rfl⟩
      have hcell : ∀ q (hq : q < 5), wr.cell? ⟨B, k * 5 + q, none⟩ = (Job.cells ⟨dn, le, dl, tr, rd⟩)[q]? := fun q hq => by rw [← hj]; exact HT.out.cellBody k hlt2 q hq
      have d0 : wr.cell? ⟨B, k * 5, none⟩ = some (.bool dn) := hcell 0 (by omega)
      have d1 : wr.cell? ⟨B, k * 5 + 1, none⟩ = some (.int .u64 le) := hcell 1 (by omega)
      have d2 : wr.cell? ⟨B, k * 5 + 2, none⟩ = some (.int .u64 dl) := hcell 2 (by omega)
      have d3 : wr.cell? ⟨B, k * 5 + 3, none⟩ = some (.int .i64 tr) := hcell 3 (by omega)
      have d4 : wr.cell? ⟨B, k * 5 + 4, none⟩ = some (.int .u64 rd) := hcell 4 (by omega)
      have HJ := Hd.mk hj
      clear hcell hj
      have hback : Job.free ⟨dn, le, dl, tr, rd⟩ now = false → ∀ wz, Below wr.heap.size wr wz → Hd ((∀ x ∈ js.take (k + 1), x.free now = false) ∧ Below w.heap.size w wz) := fun hf wz hb => ⟨⟨fun x hx => by
        rw [List.take_succ_eq_append_getElem hlt2] at hx
        rcases List.mem_append.1 hx with h1 | h1
        · exact HA.out x h1
        · rw [List.mem_singleton.1 h1, HJ.out]; exact hf, HL.out.trans (hb.mono HL.out.size)⟩⟩
      have HBK := Hd.mk hback
      clear hback
      cases hdn : dn with
      | true =>
        subst hdn
        have HF := HBK.out (by simp [Job.free]) (wr.alloc (.cells #[.bool true, .int .u64 le, .int .u64 dl, .int .i64 tr, .int .u64 rd] 40)) ((Below.refl _ _).alloc (Nat.le_refl _) _)
        go_wp2
        go_roundw
        case rel => exact ⟨k + 1, by omega, by go_num, HF.out⟩
        case measure => simp [intOf]; omega
      | false =>
        subst hdn
        by_cases hle : le = 0
        · have hle' : ((le : Int) != 0) = false := by simp [hle]
          by_cases hrd : rd ≤ now
          · have hrd' : ¬ (now : Int) < (rd : Int) := by omega
            have HFR : Hd (Job.free ⟨false, le, dl, tr, rd⟩ now = true) := ⟨by simp [Job.free, hle, hrd]⟩
            have HLE := Hd.mk hle
            clear hle hrd
            have e4 : wr.cell? ⟨p, 4, none⟩ = some (.int .u64 last) := HT.out.cellHead 4 (by omega)
            have e1 : wr.cell? ⟨p, 1, none⟩ = some (.int .u64 t.lease) := HT.out.cellHead 1 (by omega)
            have f4 := HT.out.freeHead 4
            have hwr : IntKind.u64.wrap ((last : Int) + 1) = ((last : Int) + 1) := by have := wrapU (last + 1) (by have := HN.out.2; omega); exact this
            obtain ⟨D, hD⟩ : ∃ D, D = now + t.lease := ⟨_, rfl⟩
            have hDb : D ≤ 2199023255552 := by have := HT.out.tl; have := HN.out.1; omega
            have hsum : IntKind.u64.wrap ((now : Int) + (t.lease : Int)) = (D : Int) := by rw [show ((now : Int) + (t.lease : Int)) = (D : Int) from by omega]; exact wrapU _ (by omega)
            have HD := Hd.mk (And.intro hD hDb)
            have htr : tr ≤ 64 := by have := (HT.out.fits _ (List.getElem_mem hlt2)).tries; rw [HJ.out] at this; exact this
            have hpw := HT.out.lt
            have hp1 : ¬ wr.heap.size = p := by omega
            have hp2 : ¬ p = wr.heap.size := by omega
            have hB1 : ¬ wr.heap.size = B := by omega
            have hB2 : ¬ B = wr.heap.size := by omega
            clear hD hDb
            by_cases ht64 : tr < 64
            · have ht64' : (tr : Int) < 64 := by omega
              go_wp2_with fail
              obtain ⟨y, hy⟩ : ∃ y, y = (wr.setCell ⟨p, 4, none⟩ (.int .u64 (last + 1 : Int))).alloc (.cells #[.bool false, .int .u64 (last + 1 : Int), .int .u64 D, .int .i64 ((tr : Int) + 1), .int .u64 rd] 40) := ⟨_, rfl⟩
              obtain ⟨bx, hbx⟩ : ∃ bx, bx = wr.heap.size := ⟨_, rfl⟩
              have hsz1 : (wr.setCell ⟨p, 4, none⟩ (.int .u64 (last + 1 : Int))).heap.size = bx := by rw [hbx]; simp
              have hT : RefAt y p B js t (last + 1) := by
                rw [hy]
                exact (HT.out.setLast (last + 1) (by have := HN.out.2; omega)).old ((Below.refl _ _).alloc (Nat.le_refl _) _)
              have hrow : Row y (some ⟨bx, 0, none⟩) [.bool false, .int .u64 (last + 1 : Int), .int .u64 D, .int .i64 ((tr : Int) + 1), .int .u64 rd] := by
                rw [hy, ← hsz1]
                exact row_new _ _ _ _
              have hK : Kept wr y p B := by
                rw [hy]
                exact (Kept.setCell _ _ _ _ _ (.inl rfl)).trans (Kept.of_below ((Below.refl _ _).alloc (Nat.le_refl _) _))
              rw [← hy, ← hbx]
              have hcell : ∀ q (hq : q < 5), y.cell? ⟨bx, q, none⟩ = ([.bool false, .int .u64 (last + 1 : Int), .int .u64 D, .int .i64 ((tr : Int) + 1), .int .u64 rd] : List Value)[q]? := fun q hq => by
                obtain ⟨b', o', e', hc'⟩ := hrow q (by simpa using hq)
                simp only [Option.some.injEq, Addr.mk.injEq, and_true] at e'
                obtain ⟨rfl, rfl⟩ := e'
                rw [Nat.zero_add] at hc'
                rw [hc', List.getElem?_eq_getElem (by simpa using hq)]
              have b0 : y.cell? ⟨bx, 0, none⟩ = some (.bool false) := hcell 0 (by omega)
              have b1 : y.cell? ⟨bx, 1, none⟩ = some (.int .u64 (last + 1 : Int)) := hcell 1 (by omega)
              have b2 : y.cell? ⟨bx, 2, none⟩ = some (.int .u64 D) := hcell 2 (by omega)
              have b3 : y.cell? ⟨bx, 3, none⟩ = some (.int .i64 ((tr : Int) + 1)) := hcell 3 (by omega)
              have b4 : y.cell? ⟨bx, 4, none⟩ = some (.int .u64 rd) := hcell 4 (by omega)
              have hbB : bx ≠ B := by omega
              have hbB2 : B ≠ bx := by omega
              have HY := Hd.mk (And.intro hT hK)
              clear c0 d0 d1 d2 d3 d4 e4 e1 f4 hrow hT hK hcell hy hsz1 hp1 hp2 hB1 hB2 hbx hpw hsz hrd'
              have c0 : y.cell? ⟨p, 0, none⟩ = some (.slice (some ⟨B, 0, none⟩) js.length js.length) := HY.out.1.cellHead 0 (by omega)
              have hcb : ∀ q (hq : q < 5), y.cell? ⟨B, k * 5 + q, none⟩ = (Job.cells ⟨false, le, dl, tr, rd⟩)[q]? := fun q hq => by rw [← HJ.out]; exact HY.out.1.cellBody k hlt2 q hq
              have d0 : y.cell? ⟨B, k * 5, none⟩ = some (.bool false) := hcb 0 (by omega)
              have d1 : y.cell? ⟨B, k * 5 + 1, none⟩ = some (.int .u64 le) := hcb 1 (by omega)
              have d2 : y.cell? ⟨B, k * 5 + 2, none⟩ = some (.int .u64 dl) := hcb 2 (by omega)
              have d3 : y.cell? ⟨B, k * 5 + 3, none⟩ = some (.int .i64 tr) := hcb 3 (by omega)
              have d4 : y.cell? ⟨B, k * 5 + 4, none⟩ = some (.int .u64 rd) := hcb 4 (by omega)
              have f0 := HY.out.1.freeBody (k * 5)
              have f1 := HY.out.1.freeBody (k * 5 + 1)
              have f2 := HY.out.1.freeBody (k * 5 + 2)
              have f3 := HY.out.1.freeBody (k * 5 + 3)
              have f4 := HY.out.1.freeBody (k * 5 + 4)
              clear hcb
              have hfin : ∀ nq, NextPost w p B js t last now (.returned (.tuple #[.int .i64 k, .int .u64 (last + 1 : Int), .bool true])) ((((((y.setCell ⟨B, k * 5, none⟩ (.bool false)).setCell ⟨B, k * 5 + 1, none⟩ (.int .u64 (last + 1 : Int))).setCell ⟨B, k * 5 + 2, none⟩ (.int .u64 D)).setCell ⟨B, k * 5 + 3, none⟩ (.int .i64 ((tr : Int) + 1))).setCell ⟨B, k * 5 + 4, none⟩ (.int .u64 rd)).drew.drewN nq) := by
                intro nq
                have e1 : firstFree js now = some k := by
                  unfold firstFree
                  rw [List.findIdx?_eq_some_iff_getElem]
                  refine ⟨hlt2, by rw [HJ.out]; exact HFR.out, fun j hj => ?_⟩
                  have := HA.out js[j] (List.mem_iff_getElem.2 ⟨j, by simp; omega, by simp⟩)
                  simp [this]
                unfold NextPost
                rw [e1]
                have hset := HY.out.1.setAll k hlt2 ⟨false, last + 1, D, (tr + 1), rd⟩ ⟨by have := HN.out.2; show last + 1 < _; omega, by have := HD.out.2; show D < _; omega, by simp only; omega, by have := (HY.out.1.fits _ (List.getElem_mem hlt2)).ready; rw [HJ.out] at this; exact this⟩
                refine ⟨rfl, ((Kept.of_below HL.out).trans HY.out.2).trans (((((((Kept.setCell _ p B _ _ (.inr rfl)).trans (Kept.setCell _ p B _ _ (.inr rfl))).trans (Kept.setCell _ p B _ _ (.inr rfl))).trans (Kept.setCell _ p B _ _ (.inr rfl))).trans (Kept.setCell _ p B _ _ (.inr rfl)))).trans ((Kept.drew _ p B).trans (Kept.drewN _ nq p B))), hlt2, ?_⟩
                have ej : ({ js[k] with lease := last + 1, deadline := now + t.lease, tries := min (js[k].tries + 1) 64 } : Job) = ⟨false, last + 1, D, (tr + 1), rd⟩ := by
                  rw [HJ.out, HD.out.1]
                  simp only [Job.mk.injEq, true_and, and_true]
                  omega
                rw [ej]
                exact (hset.drewN 1).drewN nq
              have HFIN := Hd.mk hfin
              clear hfin
              go_still_tail 7, (by kernel_rfl)
              go_wp2_with fail
              go_quiet (fail)
              go_wp2_with fail
              go_ret3
              exact HFIN.out nq
            · have ht64' : ¬ (tr : Int) < 64 := by omega
              go_wp2_with fail
              obtain ⟨y, hy⟩ : ∃ y, y = (wr.setCell ⟨p, 4, none⟩ (.int .u64 (last + 1 : Int))).alloc (.cells #[.bool false, .int .u64 (last + 1 : Int), .int .u64 D, .int .i64 (tr : Int), .int .u64 rd] 40) := ⟨_, rfl⟩
              obtain ⟨bx, hbx⟩ : ∃ bx, bx = wr.heap.size := ⟨_, rfl⟩
              have hsz1 : (wr.setCell ⟨p, 4, none⟩ (.int .u64 (last + 1 : Int))).heap.size = bx := by rw [hbx]; simp
              have hT : RefAt y p B js t (last + 1) := by
                rw [hy]
                exact (HT.out.setLast (last + 1) (by have := HN.out.2; omega)).old ((Below.refl _ _).alloc (Nat.le_refl _) _)
              have hrow : Row y (some ⟨bx, 0, none⟩) [.bool false, .int .u64 (last + 1 : Int), .int .u64 D, .int .i64 (tr : Int), .int .u64 rd] := by
                rw [hy, ← hsz1]
                exact row_new _ _ _ _
              have hK : Kept wr y p B := by
                rw [hy]
                exact (Kept.setCell _ _ _ _ _ (.inl rfl)).trans (Kept.of_below ((Below.refl _ _).alloc (Nat.le_refl _) _))
              rw [← hy, ← hbx]
              have hcell : ∀ q (hq : q < 5), y.cell? ⟨bx, q, none⟩ = ([.bool false, .int .u64 (last + 1 : Int), .int .u64 D, .int .i64 (tr : Int), .int .u64 rd] : List Value)[q]? := fun q hq => by
                obtain ⟨b', o', e', hc'⟩ := hrow q (by simpa using hq)
                simp only [Option.some.injEq, Addr.mk.injEq, and_true] at e'
                obtain ⟨rfl, rfl⟩ := e'
                rw [Nat.zero_add] at hc'
                rw [hc', List.getElem?_eq_getElem (by simpa using hq)]
              have b0 : y.cell? ⟨bx, 0, none⟩ = some (.bool false) := hcell 0 (by omega)
              have b1 : y.cell? ⟨bx, 1, none⟩ = some (.int .u64 (last + 1 : Int)) := hcell 1 (by omega)
              have b2 : y.cell? ⟨bx, 2, none⟩ = some (.int .u64 D) := hcell 2 (by omega)
              have b3 : y.cell? ⟨bx, 3, none⟩ = some (.int .i64 (tr : Int)) := hcell 3 (by omega)
              have b4 : y.cell? ⟨bx, 4, none⟩ = some (.int .u64 rd) := hcell 4 (by omega)
              have hbB : bx ≠ B := by omega
              have hbB2 : B ≠ bx := by omega
              have HY := Hd.mk (And.intro hT hK)
              clear c0 d0 d1 d2 d3 d4 e4 e1 f4 hrow hT hK hcell hy hsz1 hp1 hp2 hB1 hB2 hbx hpw hsz hrd'
              have c0 : y.cell? ⟨p, 0, none⟩ = some (.slice (some ⟨B, 0, none⟩) js.length js.length) := HY.out.1.cellHead 0 (by omega)
              have hcb : ∀ q (hq : q < 5), y.cell? ⟨B, k * 5 + q, none⟩ = (Job.cells ⟨false, le, dl, tr, rd⟩)[q]? := fun q hq => by rw [← HJ.out]; exact HY.out.1.cellBody k hlt2 q hq
              have d0 : y.cell? ⟨B, k * 5, none⟩ = some (.bool false) := hcb 0 (by omega)
              have d1 : y.cell? ⟨B, k * 5 + 1, none⟩ = some (.int .u64 le) := hcb 1 (by omega)
              have d2 : y.cell? ⟨B, k * 5 + 2, none⟩ = some (.int .u64 dl) := hcb 2 (by omega)
              have d3 : y.cell? ⟨B, k * 5 + 3, none⟩ = some (.int .i64 tr) := hcb 3 (by omega)
              have d4 : y.cell? ⟨B, k * 5 + 4, none⟩ = some (.int .u64 rd) := hcb 4 (by omega)
              have f0 := HY.out.1.freeBody (k * 5)
              have f1 := HY.out.1.freeBody (k * 5 + 1)
              have f2 := HY.out.1.freeBody (k * 5 + 2)
              have f3 := HY.out.1.freeBody (k * 5 + 3)
              have f4 := HY.out.1.freeBody (k * 5 + 4)
              clear hcb
              have hfin : ∀ nq, NextPost w p B js t last now (.returned (.tuple #[.int .i64 k, .int .u64 (last + 1 : Int), .bool true])) ((((((y.setCell ⟨B, k * 5, none⟩ (.bool false)).setCell ⟨B, k * 5 + 1, none⟩ (.int .u64 (last + 1 : Int))).setCell ⟨B, k * 5 + 2, none⟩ (.int .u64 D)).setCell ⟨B, k * 5 + 3, none⟩ (.int .i64 (tr : Int))).setCell ⟨B, k * 5 + 4, none⟩ (.int .u64 rd)).drew.drewN nq) := by
                intro nq
                have e1 : firstFree js now = some k := by
                  unfold firstFree
                  rw [List.findIdx?_eq_some_iff_getElem]
                  refine ⟨hlt2, by rw [HJ.out]; exact HFR.out, fun j hj => ?_⟩
                  have := HA.out js[j] (List.mem_iff_getElem.2 ⟨j, by simp; omega, by simp⟩)
                  simp [this]
                unfold NextPost
                rw [e1]
                have hset := HY.out.1.setAll k hlt2 ⟨false, last + 1, D, tr, rd⟩ ⟨by have := HN.out.2; show last + 1 < _; omega, by have := HD.out.2; show D < _; omega, by simp only; omega, by have := (HY.out.1.fits _ (List.getElem_mem hlt2)).ready; rw [HJ.out] at this; exact this⟩
                refine ⟨rfl, ((Kept.of_below HL.out).trans HY.out.2).trans (((((((Kept.setCell _ p B _ _ (.inr rfl)).trans (Kept.setCell _ p B _ _ (.inr rfl))).trans (Kept.setCell _ p B _ _ (.inr rfl))).trans (Kept.setCell _ p B _ _ (.inr rfl))).trans (Kept.setCell _ p B _ _ (.inr rfl)))).trans ((Kept.drew _ p B).trans (Kept.drewN _ nq p B))), hlt2, ?_⟩
                have ej : ({ js[k] with lease := last + 1, deadline := now + t.lease, tries := min (js[k].tries + 1) 64 } : Job) = ⟨false, last + 1, D, tr, rd⟩ := by
                  rw [HJ.out, HD.out.1]
                  simp only [Job.mk.injEq, true_and, and_true]
                  omega
                rw [ej]
                exact (hset.drewN 1).drewN nq
              have HFIN := Hd.mk hfin
              clear hfin
              go_still_tail 7, (by kernel_rfl)
              go_wp2_with fail
              go_quiet (fail)
              go_wp2_with fail
              go_ret3
              exact HFIN.out nq
          · have hrd' : (now : Int) < (rd : Int) := by omega
            have HF := HBK.out (by simp [Job.free]; omega) (wr.alloc (.cells #[.bool false, .int .u64 le, .int .u64 dl, .int .i64 tr, .int .u64 rd] 40)) ((Below.refl _ _).alloc (Nat.le_refl _) _)
            clear hle
            go_wp2
            go_roundw
            case rel => exact ⟨k + 1, by omega, by go_num, HF.out⟩
            case measure => simp [intOf]; omega
        · have hle' : ((le : Int) != 0) = true := by simp [hle]
          have HF := HBK.out (by simp [Job.free, hle]) (wr.alloc (.cells #[.bool false, .int .u64 le, .int .u64 dl, .int .i64 tr, .int .u64 rd] 40)) ((Below.refl _ _).alloc (Nat.le_refl _) _)
          clear hle
          go_wp2
          go_roundw
          case rel => exact ⟨k + 1, by omega, by go_num, HF.out⟩
          case measure => simp [intOf]; omega
    · obtain rfl : k = js.length := by omega
      have e1 : firstFree js now = none := by
        unfold firstFree
        rw [List.findIdx?_eq_none_iff]
        intro x hx
        exact HA.out x (by simpa using hx)
      have HE := Hd.mk e1
      clear e1
      go_wp2
      go_ret3
      unfold NextPost
      rw [HE.out]
      exact ⟨rfl, HL.out⟩
end Go.Proofs.Ytjampaggidelgaa
