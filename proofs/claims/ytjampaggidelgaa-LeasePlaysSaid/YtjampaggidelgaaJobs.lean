/- All jobs: a copy. -/
import Derived.Test.YtjampaggidelgaaExpire
import Derived.Test.YtjampaggidelgaaAppendEmptyN
namespace Go.Proofs.Ytjampaggidelgaa
open Go.RowKit
set_option linter.unusedSimpArgs false
set_option linter.unusedVariables false

theorem jobs_nil (w : World) : Calls Try.prog 15 #[.pointer none] w fun e w' => e = .returned (.slice none 0 0) ∧ w' = w := by
  go_enter Try.func15, Try.ntmps15
  go_wp2
  go_ret
  exact ⟨rfl, rfl⟩
theorem TabAt.row {w : World} {p B : Nat} {js : List Job} {t : Times} {last : Nat} (h : TabAt w p B js t last) : Row w (some ⟨B, 0, none⟩) (flat js) :=
  row_block h.body (by intro j hj; simp [hj])
theorem flat_one (js : List Job) : ∀ u ∈ flat js, u.oneCell' = true := by
  intro u hu
  obtain ⟨j, _, hj⟩ := List.mem_flatMap.1 hu
  simp [Job.cells] at hj
  rcases hj with rfl | rfl | rfl | rfl | rfl <;> rfl
/-- A copy of jobs, in memory of its own. -/
def JobsAt (w : World) (base : Nat) (v : Value) (js : List Job) : Prop := w.ownsRow base 40 5 v js.length (flat js)
theorem infoJobZ : ∃ i, Try.prog.info? 40 = some i ∧ i.zero = some (.agg #[.bool false, .int .u64 0, .int .u64 0, .int .i64 0, .int .u64 0]) ∧ i.size = 5 ∧ i.bytes = 40 := info_parts infoJob
set_option maxHeartbeats 800000 in
theorem clone_any (B : Nat) (js : List Job) (w : World) (h : Row w (some ⟨B, 0, none⟩) (flat js)) (hs : js.length ≤ 16) :
    Calls Try.prog 30 #[.slice (some ⟨B, 0, none⟩) js.length js.length] w fun e w' => Below w.heap.size w w' ∧ ∃ v, e = .returned v ∧ JobsAt w' w.heap.size v js := by
  have H := Hd.mk h
  obtain ⟨i0, hi, hz0, hz1, hz2⟩ := infoJobZ
  have HI := Hd.mk (And.intro hi (And.intro hz0 (And.intro hz1 hz2)))
  have HS := Hd.mk hs
  clear h hi hz0 hz1 hz2 hs
  go_enter Try.func30, Try.ntmps30
  have he := fun (w : World) => Lib.run_eql_slice_nil (P := Try.prog) w 41 40 (some ⟨B, 0, none⟩) js.length js.length 0 0 Try.underlying41
  simp only [Option.isNone_some] at he
  have hown : (w.alloc (.cells #[] 40)).ownsRow w.heap.size 40 5 (.slice (some ⟨w.heap.size, 0, none⟩) 0 0) 0 [] :=
    ⟨rfl, .inr ⟨w.heap.size, 0, #[], rfl, Nat.le_refl _, heap_new _ _, Nat.le_refl _, Nat.zero_le _, rfl, rfl⟩⟩
  have HO := Hd.mk hown
  clear hown
  go_wp2_with (first
    | (at_builtin; refine wpList_append_emptyN rfl (.tmp 5) (.tmp 6) 41 rfl w.heap.size 40 i0 (.agg #[.bool false, .int .u64 0, .int .u64 0, .int .i64 0, .int .u64 0]) 5 40 Try.underlying41 HI.out.1 HI.out.2.1 HI.out.2.2.1 HI.out.2.2.2 rfl (by omega) (some ⟨w.heap.size, 0, none⟩) rfl HO.out (some ⟨B, 0, none⟩) js.length js.length (flat js) rfl (flat_length js) (H.out.below ((Below.refl _ _).alloc (Nat.le_refl _) _)) ?x1 ?x2 ?x3 ?x4))
  case x1 => have := HS.out; omega
  case x2 => have := HS.out; unfold maxLen; omega
  case x3 => simp
  case x4 =>
    intro v' w' hb hown
    have HB := Hd.mk hb
    have HW := Hd.mk hown
    clear hb hown
    go_wp2
    go_ret
    exact ⟨((Below.refl w.heap.size w).alloc (Nat.le_refl _) (.cells #[] 40)).trans (HB.out.mono (by simp)), _, rfl, HW.out⟩
theorem jobs_any (p B : Nat) (js : List Job) (t : Times) (last : Nat) (w : World) (h : TabAt w p B js t last) :
    Calls Try.prog 15 #[.pointer (some ⟨p, 0, none⟩)] w fun e w' => Below w.heap.size w w' ∧ ∃ v, e = .returned v ∧ JobsAt w' w.heap.size v js := by
  have c0 : w.cell? ⟨p, 0, none⟩ = some (.slice (some ⟨B, 0, none⟩) js.length js.length) := h.cellHead 0 (by omega)
  have H := Hd.mk h
  clear h
  go_enter Try.func15, Try.ntmps15
  go_wp2_with fail
  have hy := clone_any B js w H.out.row H.out.small
  refine hy.mono ?_
  clear hy
  rintro e w' ⟨hb, v, rfl, hj⟩
  have HB := Hd.mk (And.intro hb hj)
  clear hb hj
  go_wp2
  go_ret
  exact ⟨HB.out.1, v, rfl, HB.out.2⟩
/-- What a reader of the copy meets. -/
theorem JobsAt.form {w : World} {base : Nat} {v : Value} {js : List Job} (h : JobsAt w base v js) (hn : 0 < js.length) : ∃ g c, v = .slice (some ⟨g, 0, none⟩) js.length c ∧ base ≤ g ∧ js.length ≤ c ∧
    ∀ i (hi : i < js.length) k (hk : k < 5), w.cell? ⟨g, i * 5 + k, none⟩ = js[i].cells[k]? := by
  rcases h.2 with ⟨_, h⟩ | ⟨g, cap, cur, e, hb, hh, hn2, _, hs, ht⟩
  · omega
  · refine ⟨g, cap, e, hb, hn2, fun i hi k hk => ?_⟩
    unfold World.cell?
    rw [hh]
    have hlt : i * 5 + k < js.length * 5 := by omega
    rw [← flat_get js i hi k hk, ← ht]
    simp
    rw [List.getElem?_take, if_pos hlt]
    simp
end Go.Proofs.Ytjampaggidelgaa
