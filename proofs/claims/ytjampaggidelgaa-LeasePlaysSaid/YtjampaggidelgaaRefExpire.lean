/- The document's table: the leases whose time is over end. -/
import Derived.Test.YtjampaggidelgaaRefDone
namespace Go.Proofs.Ytjampaggidelgaa
open Go.RowKit
set_option linter.unusedSimpArgs false
set_option linter.unusedVariables false

def RefR (w : World) (p B : Nat) (js : List Job) (t : Times) (last now : Nat) (v : Value) (k : Nat) (wr : World) : Prop :=
  wr.ownsRow w.heap.size 3 1 v (dueTo js now k).length (idxV (dueTo js now k)) ∧ Kept w wr p B ∧ RefAt wr p B (agedTo js t now k) t last
section
variable {w wr wz : World} {p B : Nat} {js : List Job} {t : Times} {last now : Nat} {v : Value} {k : Nat}
theorem RefR.keep (h : RefR w p B js t last now v k wr) (hlt : k < js.length) (hd : js[k].due now = false) : RefR w p B js t last now v (k + 1) wr := by
  refine ⟨?_, h.2.1, ?_⟩
  · rw [dueTo_succ js now k hlt, hd, if_neg (by simp), List.append_nil]; exact h.1
  · rw [agedTo_keep js t now k hlt hd]; exact h.2.2
theorem RefR.turn {w2 w3 : World} {v' : Value} {row : Option Nat} (h : RefR w p B js t last now v k wr) (hlt : k < js.length) (hd : js[k].due now = true) (hp : p < w.heap.size) (hB : B < w.heap.size)
    (hk : Kept wr w2 p B) (ht : RefAt w2 p B ((agedTo js t now k).set k (js[k].over t now)) t last)
    (hown : w3.ownsRow w.heap.size 3 1 v' ((dueTo js now k).length + 1) (idxV (dueTo js now k) ++ [.int .i64 k])) (hg : w2.grownBy w3 row) (hr : ∀ r, row = some r → w.heap.size ≤ r) : RefR w p B js t last now v' (k + 1) w3 := by
  refine ⟨?_, (h.2.1.trans hk).grown hg hr, ?_⟩
  · rw [dueTo_succ js now k hlt, hd, if_pos rfl]
    simpa [idxV] using hown
  · rw [agedTo_succ js t now k hlt]
    have e : js[k].aged t now = js[k].over t now := by simp [Job.aged, hd]
    rw [e]
    exact ht.grown hg (fun e => by have := hr p e.symm; omega) (fun e => by have := hr B e.symm; omega)
end
theorem ref_expire_late (p B : Nat) (js : List Job) (t : Times) (last now : Nat) (w : World) (h : RefAt w p B js t last) (hn : 1099511627776 < now) :
    Calls Try.prog 21 #[.pointer (some ⟨p, 0, none⟩), .int .u64 now] w fun e w' => e = .returned (.slice none 0 0) ∧ w' = w := by
  have c0 : w.cell? ⟨p, 0, none⟩ = some (.slice (some ⟨B, 0, none⟩) js.length js.length) := h.cellHead 0 (by omega)
  have hsm := h.small
  have hn' : ¬ (now : Int) ≤ 1099511627776 := by omega
  clear h hn
  go_enter Try.func21, Try.ntmps21
  go_wp2_with fail
  refine wp_loop_rounds 1 ?_
  rw [rounds_succ]
  by_cases h0 : 0 < js.length
  · have h0' : (0 : Int) < (js.length : Int) := by omega
    go_wp2
    go_ret
    exact ⟨rfl, rfl⟩
  · have h0' : ¬ (0 : Int) < (js.length : Int) := by omega
    go_wp2
    go_ret
    exact ⟨rfl, rfl⟩
set_option maxHeartbeats 1600000 in
theorem ref_expire_in (p B : Nat) (js : List Job) (t : Times) (last now : Nat) (w : World) (h : RefAt w p B js t last) (hn : now ≤ 1099511627776) :
    Calls Try.prog 21 #[.pointer (some ⟨p, 0, none⟩), .int .u64 now] w fun e w' => Kept w w' p B ∧ RefAt w' p B (agedTo js t now js.length) t last ∧
      ∃ v, e = .returned v ∧ w'.ownsRow w.heap.size 3 1 v (dueTo js now js.length).length (idxV (dueTo js now js.length)) := by
  have hlt := h.lt
  have hsm := h.small
  have hn' : (now : Int) ≤ 1099511627776 := by omega
  obtain ⟨i0, hi, hz0, hz1, hz2⟩ := info_parts infoInt
  have HI := Hd.mk (And.intro hi (And.intro hz0 (And.intro hz1 hz2)))
  have H := Hd.mk h
  have HN := Hd.mk (And.intro hn hlt)
  clear h hn hi hz0 hz1 hz2 hlt
  go_enter Try.func21, Try.ntmps21
  go_wp2_with fail
  go_loopw [5, 6] (fun v i wr => ∃ k : Nat, k ≤ js.length ∧ i = .int .i64 k ∧ RefR w p B js t last now v k wr) (fun _ i _ => js.length - (intOf i).toNat)
  case atStart => exact ⟨0, Nat.zero_le _, rfl, World.ownsRow_nil w w.heap.size 3 1, Kept.refl _ _ _, (by rw [show agedTo js t now 0 = js from rfl]; exact H.out)⟩
  case round =>
    obtain ⟨k, hk, rfl, hE⟩ := hrel
    have HE := Hd.mk hE
    clear hE
    have hlen := agedTo_length js t now k hk
    have c0 : wr.cell? ⟨p, 0, none⟩ = some (.slice (some ⟨B, 0, none⟩) js.length js.length) := by rw [← hlen]; exact HE.out.2.2.cellHead 0 (by omega)
    by_cases hlt : k < js.length
    · have hk' : k < (agedTo js t now k).length := by omega
      have hgk := agedTo_get js t now k hlt
      have d1 : wr.cell? ⟨B, k * 5 + 1, none⟩ = some (.int .u64 js[k].lease) := by rw [← hgk]; exact HE.out.2.2.cellBody k hk' 1 (by omega)
      have d2 : wr.cell? ⟨B, k * 5 + 2, none⟩ = some (.int .u64 js[k].deadline) := by rw [← hgk]; exact HE.out.2.2.cellBody k hk' 2 (by omega)
      have HL := Hd.mk (And.intro hlen hgk)
      clear hlen hgk
      have hsz := HE.out.2.1.size
      by_cases h0 : js[k].lease = 0
      · have h0' : ((js[k].lease : Int) != 0) = false := by simp [h0]
        have HD : Hd (js[k].due now = false) := ⟨by simp [Job.due, h0]⟩
        clear h0
        go_wp2
        go_roundw
        case rel => exact ⟨k + 1, by omega, by go_num, HE.out.keep hlt HD.out⟩
        case measure => simp [intOf]; omega
      · have h0' : ((js[k].lease : Int) != 0) = true := by simp [h0]
        by_cases h1 : js[k].deadline ≤ now
        · have h1' : (js[k].deadline : Int) ≤ (now : Int) := by omega
          have HD : Hd (js[k].due now = true) := ⟨by simp [Job.due, h0, h1]⟩
          clear h0 h1
          go_wp2_with fail
          have hy := ref_over p B (agedTo js t now k) t last k now wr HE.out.2.2 hk' HN.out.1
          rw [HL.out.2] at hy
          refine hy.mono ?_
          clear hy
          rintro e w2 ⟨⟨ve, rfl⟩, ht, hkp⟩
          have HT2 := Hd.mk ht
          have HK2 := Hd.mk hkp
          clear ht hkp
          have HO2 := Hd.mk (own_kept HE.out.1 HK2.out HN.out.2.1 HN.out.2.2)
          have hle := dueTo_le js now k
          have HS2 : Hd (w.heap.size ≤ w2.heap.size) := ⟨Nat.le_trans HE.out.2.1.size HK2.out.size⟩
          clear d1 d2 c0
          go_wp2_with (first
            | (at_builtin; refine wpList_append_row rfl (.tmp 45) (.tmp 47) 34 rfl w.heap.size 3 i0 (.int .i64 0) 8 Try.underlying34 HI.out.1 HI.out.2.1 HI.out.2.2.1 HI.out.2.2.2 rfl _ (dueTo js now k).length (idxV (dueTo js now k)) rfl (HO2.out.alloc _) (some ⟨w2.heap.size, 0, none⟩) 1 1 [Value.int .i64 k] rfl rfl (row_new _ _ _ _) ?x0 ?x1 ?x2 ?x3 ?x4))
          case x0 => intro u hu; simp at hu; subst hu; rfl
          case x1 => omega
          case x2 => unfold maxLen; omega
          case x3 => have := HS2.out; simp; omega
          case x4 =>
            intro v3 w3 ho3 hg3
            have hk3 : Kept wr (w2.alloc (.cells #[Value.int .i64 k] 3)) p B := HK2.out.trans (Kept.of_below ((Below.refl _ _).alloc (Nat.le_refl _) _))
            have ht3 := HT2.out.old ((Below.refl w2.heap.size w2).alloc (Nat.le_refl _) (.cells #[Value.int .i64 k] 3))
            have HE3 := Hd.mk (HE.out.turn hlt HD.out HN.out.2.1 HN.out.2.2 hk3 ht3 ho3 hg3 (fun r hr => (HO2.out.lt r hr).1))
            clear hk3 ht3 ho3 hg3
            go_wp2
            go_roundw
            case rel => exact ⟨k + 1, by omega, by go_num, HE3.out⟩
            case measure => simp [intOf]; omega
        · have h1' : ¬ (js[k].deadline : Int) ≤ (now : Int) := by omega
          have HD : Hd (js[k].due now = false) := ⟨by simp [Job.due, h1]⟩
          clear h0 h1
          go_wp2
          go_roundw
          case rel => exact ⟨k + 1, by omega, by go_num, HE.out.keep hlt HD.out⟩
          case measure => simp [intOf]; omega
    · obtain rfl : k = js.length := by omega
      clear hlen
      go_wp2
      go_ret
      exact ⟨HE.out.2.1, HE.out.2.2, _, rfl, HE.out.1⟩
end Go.Proofs.Ytjampaggidelgaa
