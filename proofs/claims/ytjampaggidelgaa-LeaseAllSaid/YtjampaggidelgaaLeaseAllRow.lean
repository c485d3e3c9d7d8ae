/- The law LeaseAll returns true for every input: no condition beside the row's own. -/
import Derived.Test.YtjampaggidelgaaAll
import Derived.Test.YtjampaggidelgaaReads
import Derived.Test.YtjampaggidelgaaRows
import Derived.WalkKit
import Derived.ProofKit
import Derived.OpenShut
import Derived.ShutString
import Derived.ChangeOld
import Derived.Below
namespace Go.Proofs.Ytjampaggidelgaa.leaseAll
open Go.ChangeShapes Go.WideShapes Go.ChangeAt Go.RowKit
set_option linter.unusedVariables false
set_option linter.unusedSimpArgs false

theorem own : ownKnob Try.prog.godebug = none := by kernel_rfl
theorem laidOut : laidOutB Try.prog = true := by kernel_rfl
@[reducible] def ty1 : Ty := (.pair (.int .u64) (.pair (.int .u64) (.pair (.int .u64) .unit)))
theorem agg_of {v : Value} {cs : List Value} (h : v.cells.toList = cs) (hl : cs.length ≠ 1) : v = .agg cs.toArray := by
  cases v <;> simp [Value.cells] at h
  case agg c => subst h; simp
  all_goals (subst h; simp at hl)

theorem walk (a0 : Int) (s1 : Ty.El ty1) (a2 : Int) (w : World) (w0 : (Lit.int .u8 a0).wf = true) (r1 : Ty.Rd w ty1 s1) (w2 : (Lit.int .u8 a2).wf = true) :
    Calls Try.prog 3 #[.int .u8 a0, .agg (Ty.cells ty1 s1).toArray, .int .u8 a2] w fun e w' => e = .returned (.bool true) ∧ Below w.heap.size w w' := by
  obtain ⟨ra, rb, rc, -⟩ := r1
  obtain ⟨a, ha, -⟩ := nat64 ra
  obtain ⟨b, hb, -⟩ := nat64 rb
  obtain ⟨c, hc, -⟩ := nat64 rc
  obtain ⟨n, rfl, hn⟩ := nat8 w0
  obtain ⟨k, rfl, hk⟩ := nat8 w2
  show Calls Try.prog 3 #[.int .u8 n, .agg #[.int .u64 s1.1, .int .u64 s1.2.1, .int .u64 s1.2.2.1], .int .u8 k] w _
  rw [ha, hb, hc]
  exact leaseAll n ⟨a, b, c⟩ k w hn hk

theorem fits1 : Ty.Fits Try.prog ty1 24 := by
  exact ⟨_, Try.underlying24, by kernel_rfl, _, _, rfl, rfl, by kernel_rfl, Try.underlying22, ⟨_, _, rfl, rfl, by kernel_rfl, Try.underlying22, ⟨_, _, rfl, rfl, by kernel_rfl, Try.underlying22, rfl⟩⟩⟩

set_option maxRecDepth 100000 in
theorem lifted (os : Os) (started : os.Started) (H : Type) (enc : TypeId × Value → H) :
    ReturnsInHanded {} Try.checked os 3 .any (Rows.leaseAllSpec.pre6 enc Try.prog Try.f3 Rows.leaseAllRow.domain false) (Rows.leaseAllSpec.post enc Try.prog Try.f3 false true false false) := by
  refine returnsInHanded_of_change (C := Try.checked) own started (by kernel_rfl) Try.func3
    (ChangeSpec.witness6 (enc := enc) (C := Try.checked) false ⟨#[], #[.int .u8 0, .agg #[.int .u64 0, .int .u64 0, .int .u64 0], .int .u8 0], []⟩ 16 (by kernel_rfl) (by kernel_rfl) (by kernel_rfl) (by kernel_rfl)) ?_
  intro W base args ds gs before hval0 hW hcnd _
  have hval : ∀ (j : Nat) t v, Try.f3.params[j]? = some t → args[j]? = some v → Value.okWide Try.prog W .any base t v := hval0
  have hW' := hW
  obtain ⟨p, q, hA0, hV, rfl, hfz, hnd⟩ := hW
  have hA : DataW.TrodAll enc Try.prog W 0 (fun _ => true) true Try.f3.params.toList args.toList ds p := hA0
  rw [Try.params3] at hA hval
  obtain ⟨v0, vs0, d0, ds0, p0, q0, hargs, rfl, rfl, h0, r0⟩ := trodAll_cons hA
  obtain ⟨v1, vs1, d1, ds1, p1, q1, rfl, rfl, rfl, h1, r1⟩ := trodAll_cons r0
  obtain ⟨v2, vs2, d2, ds2, p2, q2, rfl, rfl, rfl, h2, r2⟩ := trodAll_cons r1
  obtain ⟨rfl, rfl, rfl⟩ := trodAll_nil r2
  obtain rfl : args = #[v0, v1, v2] := by cases args; simp_all
  obtain ⟨rfl, rfl⟩ := trodVars_none hV
  obtain ⟨a0, rfl, rfl, rfl, w0⟩ := open_int Try.underlying5 (hval 0 5 v0 rfl rfl) h0
  have k1 := h1
  have lt1 : ∀ x ∈ p1, x.block < W.heap.size := by obtain ⟨m, hm⟩ := k1; exact DataW.trod_lt m _ _ _ hm
  obtain ⟨s1, hs1, rd1⟩ : ∃ s : Ty.El ty1, v1.cells.toList = Ty.cells ty1 s ∧ Ty.Rd W ty1 s := by
    obtain ⟨fuel, hf⟩ := h1
    exact Ty.rd_of_trod ty1 fuel 24 _ _ fits1 hf
  obtain rfl := agg_of hs1 (by rw [Ty.cells_length]; decide)
  obtain ⟨a2, rfl, rfl, rfl, w2⟩ := open_int Try.underlying5 (hval 2 5 v2 rfl rfl) h2
  clear hA0 hval0
  refine (walk a0 s1 a2 W w0 rd1 w2).mono fun e W' ⟨he, bel⟩ => ?_
  subst he
  exact ⟨_, rfl, _, _, _, [], _, [], hW', trodAll_mk1 (shut_bool Try.underlying4 _), (trodAll_cons_mk (shut_int Try.underlying5 w0) (trodAll_cons_mk (Below.trod laidOut (by kernel_rfl) (of_decide_eq_true (by kernel_rfl)) k1 bel lt1) (trodAll_cons_mk (shut_int Try.underlying5 w2) trodAll_mk0))), rfl, bel.frame _, fun h => by cases h⟩

theorem over : Rows.leaseAllRow.holds Try.pinned (OpenSpec.ofChange Rows.leaseAllSpec) :=
  OpenClaim.holds_of_wide 3 Try.f3 rfl rfl rfl rfl rfl rfl rfl ⟨rfl, rfl, rfl, rfl, rfl⟩ rfl rfl rfl rfl rfl (by kernel_rfl) Try.func3 (by kernel_rfl)
    (of_decide_eq_true (by kernel_rfl)) (by unfold Func.isWrapper; first | (rw [if_pos (by decide +kernel)]; kernel_rfl) | (rw [if_neg (by decide +kernel)]; exact ⟨rfl, rfl⟩))
    (fun os started H enc _ => lifted os started H enc)

/-- THE STATEMENT -/
theorem proved : Rows.LeaseAllSaid := over
#print axioms proved
end Go.Proofs.Ytjampaggidelgaa.leaseAll
