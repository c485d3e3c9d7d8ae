/- The law LeaseWaits returns true for every input: no condition beside the row's own. -/
import Derived.Test.YtjampaggidelgaaWaits
import Derived.Test.YtjampaggidelgaaReads
import Derived.Test.YtjampaggidelgaaRows
import Derived.WalkKit
import Derived.ProofKit
import Derived.OpenShut
import Derived.ShutString
import Derived.ChangeOld
import Derived.Below
namespace Go.Proofs.Ytjampaggidelgaa.leaseWaits
open Go.ChangeShapes Go.WideShapes Go.ChangeAt Go.RowKit
set_option linter.unusedVariables false
set_option linter.unusedSimpArgs false

theorem own : ownKnob Try.prog.godebug = none := by kernel_rfl
theorem laidOut : laidOutB Try.prog = true := by kernel_rfl
@[reducible] def ty0 : Ty := (.pair (.int .u64) (.pair (.int .u64) (.pair (.int .u64) .unit)))
theorem agg_of {v : Value} {cs : List Value} (h : v.cells.toList = cs) (hl : cs.length ≠ 1) : v = .agg cs.toArray := by
  cases v <;> simp [Value.cells] at h
  case agg c => subst h; simp
  all_goals (subst h; simp at hl)

theorem walk (s0 : Ty.El ty0) (a1 : Int) (a2 : Bool) (w : World) (r0 : Ty.Rd w ty0 s0) (w1 : (Lit.int .u8 a1).wf = true) :
    Calls Try.prog 6 #[.agg (Ty.cells ty0 s0).toArray, .int .u8 a1, .bool a2] w fun e w' => e = .returned (.bool true) ∧ Below w.heap.size w w' := by
  obtain ⟨ra, rb, rc, -⟩ := r0
  obtain ⟨a, ha, -⟩ := nat64 ra
  obtain ⟨b, hb, -⟩ := nat64 rb
  obtain ⟨c, hc, -⟩ := nat64 rc
  obtain ⟨n, rfl, hn⟩ := nat8 w1
  show Calls Try.prog 6 #[.agg #[.int .u64 s0.1, .int .u64 s0.2.1, .int .u64 s0.2.2.1], .int .u8 n, .bool a2] w _
  rw [ha, hb, hc]
  exact leaseWaits ⟨a, b, c⟩ n a2 w hn

theorem fits0 : Ty.Fits Try.prog ty0 24 := by
  exact ⟨_, Try.underlying24, by kernel_rfl, _, _, rfl, rfl, by kernel_rfl, Try.underlying22, ⟨_, _, rfl, rfl, by kernel_rfl, Try.underlying22, ⟨_, _, rfl, rfl, by kernel_rfl, Try.underlying22, rfl⟩⟩⟩

set_option maxRecDepth 100000 in
theorem lifted (os : Os) (started : os.Started) (H : Type) (enc : TypeId × Value → H) :
    ReturnsInHanded {} Try.checked os 6 .any (Rows.leaseWaitsSpec.pre6 enc Try.prog Try.f6 Rows.leaseWaitsRow.domain false) (Rows.leaseWaitsSpec.post enc Try.prog Try.f6 false true false false) := by
  refine returnsInHanded_of_change (C := Try.checked) own started (by kernel_rfl) Try.func6
    (ChangeSpec.witness6 (enc := enc) (C := Try.checked) false ⟨#[], #[.agg #[.int .u64 0, .int .u64 0, .int .u64 0], .int .u8 0, .bool false], []⟩ 16 (by kernel_rfl) (by kernel_rfl) (by kernel_rfl) (by kernel_rfl)) ?_
  intro W base args ds gs before hval0 hW hcnd _
  have hval : ∀ (j : Nat) t v, Try.f6.params[j]? = some t → args[j]? = some v → Value.okWide Try.prog W .any base t v := hval0
  have hW' := hW
  obtain ⟨p, q, hA0, hV, rfl, hfz, hnd⟩ := hW
  have hA : DataW.TrodAll enc Try.prog W 0 (fun _ => true) true Try.f6.params.toList args.toList ds p := hA0
  rw [Try.params6] at hA hval
  obtain ⟨v0, vs0, d0, ds0, p0, q0, hargs, rfl, rfl, h0, r0⟩ := trodAll_cons hA
  obtain ⟨v1, vs1, d1, ds1, p1, q1, rfl, rfl, rfl, h1, r1⟩ := trodAll_cons r0
  obtain ⟨v2, vs2, d2, ds2, p2, q2, rfl, rfl, rfl, h2, r2⟩ := trodAll_cons r1
  obtain ⟨rfl, rfl, rfl⟩ := trodAll_nil r2
  obtain rfl : args = #[v0, v1, v2] := by cases args; simp_all
  obtain ⟨rfl, rfl⟩ := trodVars_none hV
  have k0 := h0
  have lt0 : ∀ x ∈ p0, x.block < W.heap.size := by obtain ⟨m, hm⟩ := k0; exact DataW.trod_lt m _ _ _ hm
  obtain ⟨s0, hs0, rd0⟩ : ∃ s : Ty.El ty0, v0.cells.toList = Ty.cells ty0 s ∧ Ty.Rd W ty0 s := by
    obtain ⟨fuel, hf⟩ := h0
    exact Ty.rd_of_trod ty0 fuel 24 _ _ fits0 hf
  obtain rfl := agg_of hs0 (by rw [Ty.cells_length]; decide)
  obtain ⟨a1, rfl, rfl, rfl, w1⟩ := open_int Try.underlying5 (hval 1 5 v1 rfl rfl) h1
  obtain ⟨a2, rfl, rfl, rfl⟩ := open_bool Try.underlying4 (hval 2 4 v2 rfl rfl) h2
  clear hA0 hval0
  refine (walk s0 a1 a2 W rd0 w1).mono fun e W' ⟨he, bel⟩ => ?_
  subst he
  exact ⟨_, rfl, _, _, _, [], _, [], hW', trodAll_mk1 (shut_bool Try.underlying4 _), (trodAll_cons_mk (Below.trod laidOut (by kernel_rfl) (of_decide_eq_true (by kernel_rfl)) k0 bel lt0) (trodAll_cons_mk (shut_int Try.underlying5 w1) (trodAll_cons_mk (shut_bool Try.underlying4 _) trodAll_mk0))), rfl, bel.frame _, fun h => by cases h⟩

theorem over : Rows.leaseWaitsRow.holds Try.pinned (OpenSpec.ofChange Rows.leaseWaitsSpec) :=
  OpenClaim.holds_of_wide 6 Try.f6 rfl rfl rfl rfl rfl rfl rfl ⟨rfl, rfl, rfl, rfl, rfl⟩ rfl rfl rfl rfl rfl (by kernel_rfl) Try.func6 (by kernel_rfl)
    (of_decide_eq_true (by kernel_rfl)) (by unfold Func.isWrapper; first | (rw [if_pos (by decide +kernel)]; kernel_rfl) | (rw [if_neg (by decide +kernel)]; exact ⟨rfl, rfl⟩))
    (fun os started H enc _ => lifted os started H enc)

/-- THE STATEMENT -/
theorem proved : Rows.LeaseWaitsSaid := over
#print axioms proved
end Go.Proofs.Ytjampaggidelgaa.leaseWaits
