/- The law PostTurns returns true for every input: no condition beside the row's own. -/
import Derived.Test.YtdehkpdimghilaaTurns
import Derived.Test.YtdehkpdimghilaaReads
import Derived.Test.YtdehkpdimghilaaRows
import Derived.WalkKit
import Derived.ProofKit
import Derived.OpenShut
import Derived.ShutString
import Derived.ChangeOld
import Derived.Below
namespace Go.Proofs.Ytdehkpdimghilaa.postTurns
open Go.ChangeShapes Go.WideShapes Go.ChangeAt Go.RowKit
set_option linter.unusedVariables false
set_option linter.unusedSimpArgs false

theorem own : ownKnob Try.prog.godebug = none := by kernel_rfl
theorem laidOut : laidOutB Try.prog = true := by kernel_rfl
@[reducible] def ty0 : Ty := (.slice (.int .i64))
theorem agg_of {v : Value} {cs : List Value} (h : v.cells.toList = cs) (hl : cs.length ≠ 1) : v = .agg cs.toArray := by
  cases v <;> simp [Value.cells] at h
  case agg c => subst h; simp
  all_goals (subst h; simp at hl)

theorem walk (s0 : Ty.El ty0) (a1 : Int) (w : World) (r0 : Ty.Rd w ty0 s0) (w1 : (Lit.int .u8 a1).wf = true) :
    Calls Try.prog 5 #[.slice s0.a s0.l.length s0.c, .int .u8 a1] w fun e w' => e = .returned (.bool true) ∧ Below w.heap.size w w' := by
  obtain ⟨A, c, l⟩ := s0
  obtain ⟨hl, hc, hrow, -⟩ := r0
  have hr : 0 ≤ a1 ∧ a1 < 256 := by
    simp [Lit.wf, IntKind.min, IntKind.max, IntKind.bits, IntKind.signed] at w1
    omega
  obtain ⟨r, rfl⟩ := Int.eq_ofNat_of_zero_le hr.1
  rw [Ty.flat_one (Ty.cells (.int .i64)) numV (fun _ => rfl) l] at hrow
  simp only at hl hc hrow
  unfold maxLen at hc
  exact postTurns A l c r w hrow hl (by omega) (by omega)

theorem fits0 : Ty.Fits Try.prog ty0 40 := by
  exact ⟨_, Try.underlying40, by kernel_rfl, Try.underlying2⟩

set_option maxRecDepth 100000 in
theorem lifted (os : Os) (started : os.Started) (H : Type) (enc : TypeId × Value → H) :
    ReturnsInHanded {} Try.checked os 5 .any (Rows.postTurnsSpec.pre6 enc Try.prog Try.f5 Rows.postTurnsRow.domain false) (Rows.postTurnsSpec.post enc Try.prog Try.f5 false true false false) := by
  refine returnsInHanded_of_change (C := Try.checked) own started (by kernel_rfl) Try.func5
    (ChangeSpec.witness6 (enc := enc) (C := Try.checked) false ⟨#[], #[.slice none 0 0, .int .u8 0], []⟩ 16 (by kernel_rfl) (by kernel_rfl) (by kernel_rfl) (by kernel_rfl)) ?_
  intro W base args ds gs before hval0 hW hcnd _
  have hval : ∀ (j : Nat) t v, Try.f5.params[j]? = some t → args[j]? = some v → Value.okWide Try.prog W .any base t v := hval0
  have hW' := hW
  obtain ⟨p, q, hA0, hV, rfl, hfz, hnd⟩ := hW
  have hA : DataW.TrodAll enc Try.prog W 0 (fun _ => true) true Try.f5.params.toList args.toList ds p := hA0
  rw [Try.params5] at hA hval
  obtain ⟨v0, vs0, d0, ds0, p0, q0, hargs, rfl, rfl, h0, r0⟩ := trodAll_cons hA
  obtain ⟨v1, vs1, d1, ds1, p1, q1, rfl, rfl, rfl, h1, r1⟩ := trodAll_cons r0
  obtain ⟨rfl, rfl, rfl⟩ := trodAll_nil r1
  obtain rfl : args = #[v0, v1] := by cases args; simp_all
  obtain ⟨rfl, rfl⟩ := trodVars_none hV
  obtain ⟨x0, len0, cap0, rfl⟩ := okWide_slice Try.underlying40 (hval 0 40 v0 rfl rfl)
  have k0 := h0
  have lt0 : ∀ x ∈ p0, x.block < W.heap.size := by obtain ⟨m, hm⟩ := k0; exact DataW.trod_lt m _ _ _ hm
  obtain ⟨s0, hs0, rd0⟩ : ∃ s : Ty.El ty0, [Value.slice x0 len0 cap0] = Ty.cells ty0 s ∧ Ty.Rd W ty0 s := by
    obtain ⟨fuel, hf⟩ := h0
    exact Ty.rd_of_trod ty0 fuel 40 _ _ fits0 hf
  simp only [Ty.cells, List.cons.injEq, Value.slice.injEq, and_true] at hs0
  obtain ⟨rfl, rfl, rfl⟩ := hs0
  obtain ⟨a1, rfl, rfl, rfl, w1⟩ := open_int Try.underlying5 (hval 1 5 v1 rfl rfl) h1
  clear hA0 hval0
  refine (walk s0 a1 W rd0 w1).mono fun e W' ⟨he, bel⟩ => ?_
  subst he
  exact ⟨_, rfl, _, _, _, [], _, [], hW', trodAll_mk1 (shut_bool Try.underlying4 _), (trodAll_cons_mk (Below.trod laidOut (by kernel_rfl) (of_decide_eq_true (by kernel_rfl)) k0 bel lt0) (trodAll_cons_mk (shut_int Try.underlying5 w1) trodAll_mk0)), rfl, bel.frame _, fun h => by cases h⟩

theorem over : Rows.postTurnsRow.holds Try.pinned (OpenSpec.ofChange Rows.postTurnsSpec) :=
  OpenClaim.holds_of_wide 5 Try.f5 rfl rfl rfl rfl rfl rfl rfl ⟨rfl, rfl, rfl, rfl, rfl⟩ rfl rfl rfl rfl rfl (by kernel_rfl) Try.func5 (by kernel_rfl)
    (of_decide_eq_true (by kernel_rfl)) (by unfold Func.isWrapper; first | (rw [if_pos (by decide +kernel)]; kernel_rfl) | (rw [if_neg (by decide +kernel)]; exact ⟨rfl, rfl⟩))
    (fun os started H enc _ => lifted os started H enc)

/-- THE STATEMENT -/
theorem proved : Rows.PostTurnsSaid := over
#print axioms proved
end Go.Proofs.Ytdehkpdimghilaa.postTurns
