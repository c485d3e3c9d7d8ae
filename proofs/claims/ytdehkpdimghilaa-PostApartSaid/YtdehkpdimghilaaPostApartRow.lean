/- The law PostApart returns true for every input: no condition beside the row's own. -/
import Derived.Test.YtdehkpdimghilaaApart
import Derived.Test.YtdehkpdimghilaaReads
import Derived.Test.YtdehkpdimghilaaRows
import Derived.WalkKit
import Derived.ProofKit
import Derived.OpenShut
import Derived.ShutString
import Derived.ChangeOld
import Derived.Below
namespace Go.Proofs.Ytdehkpdimghilaa.postApart
open Go.ChangeShapes Go.WideShapes Go.ChangeAt Go.RowKit
set_option linter.unusedVariables false
set_option linter.unusedSimpArgs false

theorem own : ownKnob Try.prog.godebug = none := by kernel_rfl
theorem laidOut : laidOutB Try.prog = true := by kernel_rfl
@[reducible] def ty0 : Ty := (.slice (.int .i64))
@[reducible] def ty1 : Ty := (.slice (.int .i64))
theorem agg_of {v : Value} {cs : List Value} (h : v.cells.toList = cs) (hl : cs.length ≠ 1) : v = .agg cs.toArray := by
  cases v <;> simp [Value.cells] at h
  case agg c => subst h; simp
  all_goals (subst h; simp at hl)

theorem walk (s0 : Ty.El ty0) (s1 : Ty.El ty1) (a2 : Int) (w : World) (r0 : Ty.Rd w ty0 s0) (r1 : Ty.Rd w ty1 s1) (w2 : (Lit.int .u8 a2).wf = true) :
    Calls Try.prog 7 #[.slice s0.a s0.l.length s0.c, .slice s1.a s1.l.length s1.c, .int .u8 a2] w fun e w' => e = .returned (.bool true) ∧ Below w.heap.size w w' := by
  obtain ⟨A, ca, l⟩ := s0
  obtain ⟨B, cb, m⟩ := s1
  obtain ⟨hl, hc, hrow, -⟩ := r0
  obtain ⟨hl2, hc2, hrow2, -⟩ := r1
  have hr : 0 ≤ a2 ∧ a2 < 256 := by
    simp [Lit.wf, IntKind.min, IntKind.max, IntKind.bits, IntKind.signed] at w2
    omega
  obtain ⟨t, rfl⟩ := Int.eq_ofNat_of_zero_le hr.1
  rw [Ty.flat_one (Ty.cells (.int .i64)) numV (fun _ => rfl) l] at hrow
  rw [Ty.flat_one (Ty.cells (.int .i64)) numV (fun _ => rfl) m] at hrow2
  simp only at hl hc hrow hl2 hc2 hrow2
  unfold maxLen at hc hc2
  refine postApart A B l m (l.take 200) (m.take 200) ca cb t w ?_ ?_ hl hl2 (by omega) (by omega) (by omega) (by rw [List.length_take, Nat.min_comm]) (by rw [List.length_take, Nat.min_comm])
  · have := Row.take hrow 200
    rw [← List.map_take] at this
    exact this
  · have := Row.take hrow2 200
    rw [← List.map_take] at this
    exact this

theorem fits0 : Ty.Fits Try.prog ty0 40 := by
  exact ⟨_, Try.underlying40, by kernel_rfl, Try.underlying2⟩

theorem fits1 : Ty.Fits Try.prog ty1 40 := by
  exact ⟨_, Try.underlying40, by kernel_rfl, Try.underlying2⟩

set_option maxRecDepth 100000 in
theorem lifted (os : Os) (started : os.Started) (H : Type) (enc : TypeId × Value → H) :
    ReturnsInHanded {} Try.checked os 7 .any (Rows.postApartSpec.pre6 enc Try.prog Try.f7 Rows.postApartRow.domain false) (Rows.postApartSpec.post enc Try.prog Try.f7 false true false false) := by
  refine returnsInHanded_of_change (C := Try.checked) own started (by kernel_rfl) Try.func7
    (ChangeSpec.witness6 (enc := enc) (C := Try.checked) false ⟨#[], #[.slice none 0 0, .slice none 0 0, .int .u8 0], []⟩ 16 (by kernel_rfl) (by kernel_rfl) (by kernel_rfl) (by kernel_rfl)) ?_
  intro W base args ds gs before hval0 hW hcnd _
  have hval : ∀ (j : Nat) t v, Try.f7.params[j]? = some t → args[j]? = some v → Value.okWide Try.prog W .any base t v := hval0
  have hW' := hW
  obtain ⟨p, q, hA0, hV, rfl, hfz, hnd⟩ := hW
  have hA : DataW.TrodAll enc Try.prog W 0 (fun _ => true) true Try.f7.params.toList args.toList ds p := hA0
  rw [Try.params7] at hA hval
  obtain ⟨v0, vs0, d0, ds0, p0, q0, hargs, rfl, rfl, h0, r0⟩ := trodAll_cons hA
  obtain ⟨v1, vs1, d1, ds1, p1, q1, rfl, rfl, rfl, h1, r1⟩ := trodAll_cons r0
  obtain ⟨v2, vs2, d2, ds2, p2, q2, rfl, rfl, rfl, h2, r2⟩ := trodAll_cons r1
  obtain ⟨rfl, rfl, rfl⟩ := trodAll_nil r2
  obtain rfl : args = #[v0, v1, v2] := by cases args; simp_all
  obtain ⟨rfl, rfl⟩ := trodVars_none hV
  obtain ⟨x0, len0, cap0, rfl⟩ := okWide_slice Try.underlying40 (hval 0 40 v0 rfl rfl)
  have k0 := h0
  have lt0 : ∀ x ∈ p0, x.block < W.heap.size := by obtain ⟨m, hm⟩ := k0; exact DataW.trod_lt m _ _ _ hm
  obtain ⟨s0, hs0, rd0⟩ : ∃ s : Ty.El ty0, [Value.slice x0 len0 cap0] = Ty.cells ty0 s ∧ Ty.Rd W ty0 s := by
    obtain ⟨fuel, hf⟩ := h0
    exact Ty.rd_of_trod ty0 fuel 40 _ _ fits0 hf
  simp only [Ty.cells, List.cons.injEq, Value.slice.injEq, and_true] at hs0
  obtain ⟨rfl, rfl, rfl⟩ := hs0
  obtain ⟨x1, len1, cap1, rfl⟩ := okWide_slice Try.underlying40 (hval 1 40 v1 rfl rfl)
  have k1 := h1
  have lt1 : ∀ x ∈ p1, x.block < W.heap.size := by obtain ⟨m, hm⟩ := k1; exact DataW.trod_lt m _ _ _ hm
  obtain ⟨s1, hs1, rd1⟩ : ∃ s : Ty.El ty1, [Value.slice x1 len1 cap1] = Ty.cells ty1 s ∧ Ty.Rd W ty1 s := by
    obtain ⟨fuel, hf⟩ := h1
    exact Ty.rd_of_trod ty1 fuel 40 _ _ fits1 hf
  simp only [Ty.cells, List.cons.injEq, Value.slice.injEq, and_true] at hs1
  obtain ⟨rfl, rfl, rfl⟩ := hs1
  obtain ⟨a2, rfl, rfl, rfl, w2⟩ := open_int Try.underlying5 (hval 2 5 v2 rfl rfl) h2
  clear hA0 hval0
  refine (walk s0 s1 a2 W rd0 rd1 w2).mono fun e W' ⟨he, bel⟩ => ?_
  subst he
  exact ⟨_, rfl, _, _, _, [], _, [], hW', trodAll_mk1 (shut_bool Try.underlying4 _), (trodAll_cons_mk (Below.trod laidOut (by kernel_rfl) (of_decide_eq_true (by kernel_rfl)) k0 bel lt0) (trodAll_cons_mk (Below.trod laidOut (by kernel_rfl) (of_decide_eq_true (by kernel_rfl)) k1 bel lt1) (trodAll_cons_mk (shut_int Try.underlying5 w2) trodAll_mk0))), rfl, bel.frame _, fun h => by cases h⟩

theorem over : Rows.postApartRow.holds Try.pinned (OpenSpec.ofChange Rows.postApartSpec) :=
  OpenClaim.holds_of_wide 7 Try.f7 rfl rfl rfl rfl rfl rfl rfl ⟨rfl, rfl, rfl, rfl, rfl⟩ rfl rfl rfl rfl rfl (by kernel_rfl) Try.func7 (by kernel_rfl)
    (of_decide_eq_true (by kernel_rfl)) (by unfold Func.isWrapper; first | (rw [if_pos (by decide +kernel)]; kernel_rfl) | (rw [if_neg (by decide +kernel)]; exact ⟨rfl, rfl⟩))
    (fun os started H enc _ => lifted os started H enc)

/-- THE STATEMENT -/
theorem proved : Rows.PostApartSaid := over
#print axioms proved
end Go.Proofs.Ytdehkpdimghilaa.postApart
