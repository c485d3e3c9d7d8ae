/- The law LeasePlays returns true for every input: no condition beside the row's own. -/
import Derived.Test.YtjampaggidelgaaPlays
import Derived.Test.YtjampaggidelgaaReads
import Derived.Test.YtjampaggidelgaaRows
import Derived.WalkKit
import Derived.ProofKit
import Derived.OpenShut
import Derived.ShutString
import Derived.ChangeOld
import Derived.Below
namespace Go.Proofs.Ytjampaggidelgaa.leasePlays
open Go.ChangeShapes Go.WideShapes Go.ChangeAt Go.RowKit
set_option linter.unusedVariables false
set_option linter.unusedSimpArgs false

theorem own : ownKnob Try.prog.godebug = none := by kernel_rfl
theorem laidOut : laidOutB Try.prog = true := by kernel_rfl
@[reducible] def ty1 : Ty := (.pair (.int .u64) (.pair (.int .u64) (.pair (.int .u64) .unit)))
@[reducible] def ty4 : Ty := (.slice (.pair (.int .u8) (.pair (.int .u64) (.pair .bool (.pair (.int .i64) (.pair (.int .u64) .unit))))))
theorem agg_of {v : Value} {cs : List Value} (h : v.cells.toList = cs) (hl : cs.length ≠ 1) : v = .agg cs.toArray := by
  cases v <;> simp [Value.cells] at h
  case agg c => subst h; simp
  all_goals (subst h; simp at hl)

theorem walk (a0 : Int) (s1 : Ty.El ty1) (a2 : Bool) (a3 : Int) (s4 : Ty.El ty4) (w : World) (w0 : (Lit.int .i64 a0).wf = true) (r1 : Ty.Rd w ty1 s1) (w3 : (Lit.int .u64 a3).wf = true) (r4 : Ty.Rd w ty4 s4) :
    Calls Try.prog 7 #[.int .i64 a0, .agg (Ty.cells ty1 s1).toArray, .bool a2, .int .u64 a3, .slice s4.a s4.l.length s4.c] w fun e w' => e = .returned (.bool true) ∧ Below w.heap.size w w' := by
  obtain ⟨ra, rb, rc, -⟩ := r1
  obtain ⟨a, ha, hab⟩ := nat64 ra
  obtain ⟨b, hb, hbb⟩ := nat64 rb
  obtain ⟨c, hc, hcb⟩ := nat64 rc
  obtain ⟨l, rfl, hl⟩ := nat64 w3
  obtain ⟨h1, h2, h3, h4⟩ := acts_of r4
  show Calls Try.prog 7 #[.int .i64 a0, .agg #[.int .u64 s1.1, .int .u64 s1.2.1, .int .u64 s1.2.2.1], .bool a2, .int .u64 l, .slice s4.a s4.l.length s4.c] w _
  rw [ha, hb, hc, ← h2]
  simp [Lit.wf, IntKind.min, IntKind.max, IntKind.bits, IntKind.signed] at w0
  exact leasePlays a0 ⟨a, b, c⟩ a2 l s4.a _ s4.c w ⟨by omega, by omega, hab, hbb, hcb, hl⟩ h1 (by rw [h2]; exact h4)

theorem fits1 : Ty.Fits Try.prog ty1 24 := by
  exact ⟨_, Try.underlying24, by kernel_rfl, _, _, rfl, rfl, by kernel_rfl, Try.underlying22, ⟨_, _, rfl, rfl, by kernel_rfl, Try.underlying22, ⟨_, _, rfl, rfl, by kernel_rfl, Try.underlying22, rfl⟩⟩⟩

theorem fits4 : Ty.Fits Try.prog ty4 44 := by
  exact ⟨_, Try.underlying44, by kernel_rfl, ⟨_, Try.underlying46, by kernel_rfl, _, _, rfl, rfl, by kernel_rfl, Try.underlying5, ⟨_, _, rfl, rfl, by kernel_rfl, Try.underlying22, ⟨_, _, rfl, rfl, by kernel_rfl, Try.underlying4, ⟨_, _, rfl, rfl, by kernel_rfl, Try.underlying3, ⟨_, _, rfl, rfl, by kernel_rfl, Try.underlying22, rfl⟩⟩⟩⟩⟩⟩

set_option maxRecDepth 100000 in
theorem lifted (os : Os) (started : os.Started) (H : Type) (enc : TypeId × Value → H) :
    ReturnsInHanded {} Try.checked os 7 .any (Rows.leasePlaysSpec.pre6 enc Try.prog Try.f7 Rows.leasePlaysRow.domain false) (Rows.leasePlaysSpec.post enc Try.prog Try.f7 false true false false) := by
  refine returnsInHanded_of_change (C := Try.checked) own started (by kernel_rfl) Try.func7
    (ChangeSpec.witness6 (enc := enc) (C := Try.checked) false ⟨#[], #[.int .i64 0, .agg #[.int .u64 0, .int .u64 0, .int .u64 0], .bool false, .int .u64 0, .slice none 0 0], []⟩ 16 (by kernel_rfl) (by kernel_rfl) (by kernel_rfl) (by kernel_rfl)) ?_
  intro W base args ds gs before hval0 hW hcnd _
  have hval : ∀ (j : Nat) t v, Try.f7.params[j]? = some t → args[j]? = some v → Value.okWide Try.prog W .any base t v := hval0
  have hW' := hW
  obtain ⟨p, q, hA0, hV, rfl, hfz, hnd⟩ := hW
  have hA : DataW.TrodAll enc Try.prog W 0 (fun _ => true) true Try.f7.params.toList args.toList ds p := hA0
  rw [Try.params7] at hA hval
  obtain ⟨v0, vs0, d0, ds0, p0, q0, hargs, rfl, rfl, h0, r0⟩ := trodAll_cons hA
  obtain ⟨v1, vs1, d1, ds1, p1, q1, rfl, rfl, rfl, h1, r1⟩ := trodAll_cons r0
  obtain ⟨v2, vs2, d2, ds2, p2, q2, rfl, rfl, rfl, h2, r2⟩ := trodAll_cons r1
  obtain ⟨v3, vs3, d3, ds3, p3, q3, rfl, rfl, rfl, h3, r3⟩ := trodAll_cons r2
  obtain ⟨v4, vs4, d4, ds4, p4, q4, rfl, rfl, rfl, h4, r4⟩ := trodAll_cons r3
  obtain ⟨rfl, rfl, rfl⟩ := trodAll_nil r4
  obtain rfl : args = #[v0, v1, v2, v3, v4] := by cases args; simp_all
  obtain ⟨rfl, rfl⟩ := trodVars_none hV
  obtain ⟨a0, rfl, rfl, rfl, w0⟩ := open_int Try.underlying3 (hval 0 3 v0 rfl rfl) h0
  have k1 := h1
  have lt1 : ∀ x ∈ p1, x.block < W.heap.size := by obtain ⟨m, hm⟩ := k1; exact DataW.trod_lt m _ _ _ hm
  obtain ⟨s1, hs1, rd1⟩ : ∃ s : Ty.El ty1, v1.cells.toList = Ty.cells ty1 s ∧ Ty.Rd W ty1 s := by
    obtain ⟨fuel, hf⟩ := h1
    exact Ty.rd_of_trod ty1 fuel 24 _ _ fits1 hf
  obtain rfl := agg_of hs1 (by rw [Ty.cells_length]; decide)
  obtain ⟨a2, rfl, rfl, rfl⟩ := open_bool Try.underlying4 (hval 2 4 v2 rfl rfl) h2
  obtain ⟨a3, rfl, rfl, rfl, w3⟩ := open_int Try.underlying22 (hval 3 22 v3 rfl rfl) h3
  obtain ⟨x4, len4, cap4, rfl⟩ := okWide_slice Try.underlying44 (hval 4 44 v4 rfl rfl)
  have k4 := h4
  have lt4 : ∀ x ∈ p4, x.block < W.heap.size := by obtain ⟨m, hm⟩ := k4; exact DataW.trod_lt m _ _ _ hm
  obtain ⟨s4, hs4, rd4⟩ : ∃ s : Ty.El ty4, [Value.slice x4 len4 cap4] = Ty.cells ty4 s ∧ Ty.Rd W ty4 s := by
    obtain ⟨fuel, hf⟩ := h4
    exact Ty.rd_of_trod ty4 fuel 44 _ _ fits4 hf
  simp only [Ty.cells, List.cons.injEq, Value.slice.injEq, and_true] at hs4
  obtain ⟨rfl, rfl, rfl⟩ := hs4
  clear hA0 hval0
  refine (walk a0 s1 a2 a3 s4 W w0 rd1 w3 rd4).mono fun e W' ⟨he, bel⟩ => ?_
  subst he
  exact ⟨_, rfl, _, _, _, [], _, [], hW', trodAll_mk1 (shut_bool Try.underlying4 _), (trodAll_cons_mk (shut_int Try.underlying3 w0) (trodAll_cons_mk (Below.trod laidOut (by kernel_rfl) (of_decide_eq_true (by kernel_rfl)) k1 bel lt1) (trodAll_cons_mk (shut_bool Try.underlying4 _) (trodAll_cons_mk (shut_int Try.underlying22 w3) (trodAll_cons_mk (Below.trod laidOut (by kernel_rfl) (of_decide_eq_true (by kernel_rfl)) k4 bel lt4) trodAll_mk0))))), rfl, bel.frame _, fun h => by cases h⟩

theorem over : Rows.leasePlaysRow.holds Try.pinned (OpenSpec.ofChange Rows.leasePlaysSpec) :=
  OpenClaim.holds_of_wide 7 Try.f7 rfl rfl rfl rfl rfl rfl rfl ⟨rfl, rfl, rfl, rfl, rfl⟩ rfl rfl rfl rfl rfl (by kernel_rfl) Try.func7 (by kernel_rfl)
    (of_decide_eq_true (by kernel_rfl)) (by unfold Func.isWrapper; first | (rw [if_pos (by decide +kernel)]; kernel_rfl) | (rw [if_neg (by decide +kernel)]; exact ⟨rfl, rfl⟩))
    (fun os started H enc _ => lifted os started H enc)

/-- THE STATEMENT -/
theorem proved : Rows.LeasePlaysSaid := over
#print axioms proved
end Go.Proofs.Ytjampaggidelgaa.leasePlays
