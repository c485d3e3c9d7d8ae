/- The law PostPlays returns true for every input: no condition beside the row's own. -/
import Derived.Test.YtdehkpdimghilaaPlays
import Derived.Test.YtdehkpdimghilaaReadBytes
import Derived.Test.YtdehkpdimghilaaRows
import Derived.WalkKit
import Derived.ProofKit
import Derived.OpenShut
import Derived.ShutString
import Derived.ChangeOld
import Derived.Below
namespace Go.Proofs.Ytdehkpdimghilaa.postPlays
open Go.ChangeShapes Go.WideShapes Go.ChangeAt Go.RowKit
set_option linter.unusedVariables false
set_option linter.unusedSimpArgs false

theorem own : ownKnob Try.prog.godebug = none := by kernel_rfl
theorem laidOut : laidOutB Try.prog = true := by kernel_rfl
@[reducible] def ty1 : Ty := (.slice (.pair (.int .u8) (.pair (.slice (.int .u8)) .unit)))
theorem agg_of {v : Value} {cs : List Value} (h : v.cells.toList = cs) (hl : cs.length ≠ 1) : v = .agg cs.toArray := by
  cases v <;> simp [Value.cells] at h
  case agg c => subst h; simp
  all_goals (subst h; simp at hl)

theorem walk (a0 : Int) (s1 : Ty.El ty1) (w : World) (w0 : (Lit.int .i64 a0).wf = true) (r1 : Ty.Rd w ty1 s1) :
    Calls Try.prog 3 #[.int .i64 a0, .slice s1.a s1.l.length s1.c] w fun e w' => e = .returned (.bool true) ∧ Below w.heap.size w w' := by
  obtain ⟨A, ca, l⟩ := s1
  obtain ⟨hl, hc, hrow, hel⟩ := r1
  simp only at hl hc hrow hel
  unfold maxLen at hc
  obtain ⟨ms, hms⟩ : ∃ ms : List Move, ms = l.map fun x => ⟨x.1.toNat, ⟨x.2.1.a, x.2.1.c, x.2.1.l.map toByte⟩⟩ := ⟨_, rfl⟩
  have hln : ms.length = l.length := by rw [hms, List.length_map]
  have hfl : ms.flatMap Move.cells = l.flatMap (Ty.cells (.pair (.int .u8) (.pair (.slice (.int .u8)) .unit))) := by
    rw [hms, List.flatMap_map]
    rw [List.flatMap_def, List.flatMap_def]
    congr 1
    refine List.map_congr_left fun x hx => ?_
    have h0 := (byte_of (hel x hx).1).1
    simp [Move.cells, Part.v, Ty.cells, Int.toNat_of_nonneg h0]
  have := postPlays A ca a0 ms w ⟨by rw [hfl]; exact hrow, ?_, ?_⟩ (by omega)
  · rw [hln] at this
    exact this
  · intro m hm
    rw [hms] at hm
    obtain ⟨x, hx, rfl⟩ := List.mem_map.1 hm
    have h0 := byte_of (hel x hx).1
    show x.1.toNat < 256
    omega
  · intro p hp
    rw [hms, List.map_map] at hp
    obtain ⟨x, hx, rfl⟩ := List.mem_map.1 hp
    have h0 := bytes_of_rd (hel x hx).2.1
    exact ⟨h0.1, by simpa using h0.2.1⟩

theorem fits1 : Ty.Fits Try.prog ty1 22 := by
  exact ⟨_, Try.underlying22, by kernel_rfl, ⟨_, Try.underlying31, by kernel_rfl, _, _, rfl, rfl, by kernel_rfl, Try.underlying5, ⟨_, _, rfl, rfl, by kernel_rfl, ⟨_, Try.underlying28, by kernel_rfl, Try.underlying5⟩, rfl⟩⟩⟩

set_option maxRecDepth 100000 in
theorem lifted (os : Os) (started : os.Started) (H : Type) (enc : TypeId × Value → H) :
    ReturnsInHanded {} Try.checked os 3 .any (Rows.postPlaysSpec.pre6 enc Try.prog Try.f3 Rows.postPlaysRow.domain false) (Rows.postPlaysSpec.post enc Try.prog Try.f3 false true false false) := by
  refine returnsInHanded_of_change (C := Try.checked) own started (by kernel_rfl) Try.func3
    (ChangeSpec.witness6 (enc := enc) (C := Try.checked) false ⟨#[], #[.int .i64 0, .slice none 0 0], []⟩ 16 (by kernel_rfl) (by kernel_rfl) (by kernel_rfl) (by kernel_rfl)) ?_
  intro W base args ds gs before hval0 hW hcnd _
  have hval : ∀ (j : Nat) t v, Try.f3.params[j]? = some t → args[j]? = some v → Value.okWide Try.prog W .any base t v := hval0
  have hW' := hW
  obtain ⟨p, q, hA0, hV, rfl, hfz, hnd⟩ := hW
  have hA : DataW.TrodAll enc Try.prog W 0 (fun _ => true) true Try.f3.params.toList args.toList ds p := hA0
  rw [Try.params3] at hA hval
  obtain ⟨v0, vs0, d0, ds0, p0, q0, hargs, rfl, rfl, h0, r0⟩ := trodAll_cons hA
  obtain ⟨v1, vs1, d1, ds1, p1, q1, rfl, rfl, rfl, h1, r1⟩ := trodAll_cons r0
  obtain ⟨rfl, rfl, rfl⟩ := trodAll_nil r1
  obtain rfl : args = #[v0, v1] := by cases args; simp_all
  obtain ⟨rfl, rfl⟩ := trodVars_none hV
  obtain ⟨a0, rfl, rfl, rfl, w0⟩ := open_int Try.underlying3 (hval 0 3 v0 rfl rfl) h0
  obtain ⟨x1, len1, cap1, rfl⟩ := okWide_slice Try.underlying22 (hval 1 22 v1 rfl rfl)
  have k1 := h1
  have lt1 : ∀ x ∈ p1, x.block < W.heap.size := by obtain ⟨m, hm⟩ := k1; exact DataW.trod_lt m _ _ _ hm
  obtain ⟨s1, hs1, rd1⟩ : ∃ s : Ty.El ty1, [Value.slice x1 len1 cap1] = Ty.cells ty1 s ∧ Ty.Rd W ty1 s := by
    obtain ⟨fuel, hf⟩ := h1
    exact Ty.rd_of_trod ty1 fuel 22 _ _ fits1 hf
  simp only [Ty.cells, List.cons.injEq, Value.slice.injEq, and_true] at hs1
  obtain ⟨rfl, rfl, rfl⟩ := hs1
  clear hA0 hval0
  refine (walk a0 s1 W w0 rd1).mono fun e W' ⟨he, bel⟩ => ?_
  subst he
  exact ⟨_, rfl, _, _, _, [], _, [], hW', trodAll_mk1 (shut_bool Try.underlying4 _), (trodAll_cons_mk (shut_int Try.underlying3 w0) (trodAll_cons_mk (Below.trod laidOut (by kernel_rfl) (of_decide_eq_true (by kernel_rfl)) k1 bel lt1) trodAll_mk0)), rfl, bel.frame _, fun h => by cases h⟩

theorem over : Rows.postPlaysRow.holds Try.pinned (OpenSpec.ofChange Rows.postPlaysSpec) :=
  OpenClaim.holds_of_wide 3 Try.f3 rfl rfl rfl rfl rfl rfl rfl ⟨rfl, rfl, rfl, rfl, rfl⟩ rfl rfl rfl rfl rfl (by kernel_rfl) Try.func3 (by kernel_rfl)
    (of_decide_eq_true (by kernel_rfl)) (by unfold Func.isWrapper; first | (rw [if_pos (by decide +kernel)]; kernel_rfl) | (rw [if_neg (by decide +kernel)]; exact ⟨rfl, rfl⟩))
    (fun os started H enc _ => lifted os started H enc)

/-- THE STATEMENT -/
theorem proved : Rows.PostPlaysSaid := over
#print axioms proved
end Go.Proofs.Ytdehkpdimghilaa.postPlays
