/- The law TopFull returns true for every input: no condition beside the row's own. -/
import Derived.Test.YtjkgligohegaeaaGreatDoorN29
import Derived.Test.YtjkgligohegaeaaGreatDoorN31
import Derived.Test.YtjkgligohegaeaaGreatDoorN29
import Derived.Test.YtjkgligohegaeaaGreatDoorRows
import Derived.WalkKit
import Derived.ProofKit
import Derived.OpenShut
import Derived.ShutString
import Derived.ChangeOld
import Derived.Below
import Derived.ChangeVars
import Derived.JoinedOf
import Derived.LaidLaws
import Derived.LaidHandle
import Derived.Lib.LaidTab
import Derived.Stop.Joined
import Derived.SevenTiedAt
import Derived.Test.YtjkgligohegaeaaGreatDoorTie
import Derived.Test.YtjkgligohegaeaaGreatDoorCards
namespace Go.Proofs.YtjkgligohegaeaaGreatDoor.topFull
open Go.ChangeShapes Go.WideShapes Go.ChangeAt Go.RowKit
set_option linter.unusedVariables false
set_option linter.unusedSimpArgs false

theorem own : ownKnob Tryz.prog.godebug = none := by kernel_rfl
theorem gN : Tryz.prog.globalNamed "math/bits.deBruijn64tab" = some 0 := by kernel_rfl
theorem gNT : (Tryz.prog.globals[0]?).map (·.type) = some 349 := by kernel_rfl
theorem cells5 : Tryz.prog.cellsOf 5 = 1 := by kernel_rfl
theorem cells349 : Tryz.prog.cellsOf 349 = 64 := by kernel_rfl
theorem laidH_none {P : Program} {laid : List (String × DataW Unit)} {w : World} (h : (laid.filter fun x => x.2.handleName?.isSome) = []) : laidMetH P laid w = laidMet P laid w := by
  unfold laidMetH
  rw [h]
def tab : List Int := [0, 1, 56, 2, 57, 49, 28, 3, 61, 58, 42, 50, 38, 29, 17, 4, 62, 47, 59, 36, 45, 43, 51, 22, 53, 39, 33, 30, 24, 18, 12, 5, 63, 55, 48, 27, 60, 41, 37, 16, 46, 35, 44, 21, 52, 32, 23, 11, 54, 26, 40, 15, 34, 20, 31, 10, 25, 14, 19, 9, 13, 8, 7, 6]
theorem laid_tab : Rows.topFullRow.laid = [("math/bits.deBruijn64tab", Lib.tabData .u8 tab)] := rfl
theorem tabOk {W : World} (h : laidMetH Tryz.prog Rows.topFullRow.laid W) : TabOk W := by
  rw [laidH_none (by kernel_rfl), laid_tab] at h
  have hT := Lib.tabIs_of_head gN gNT (by kernel_rfl) Tryz.underlying5 cells5 cells349 h
  exact ⟨hT.cell gN 0 (by simp [tab]), hT.cell gN 1 (by simp [tab])⟩
noncomputable def laidWorld (os : Os) : World :=
  { World.holding Tryz.prog os ⟨#[], #[], []⟩ with heap := (World.holding Tryz.prog os ⟨#[], #[], []⟩).heap.modify 0 fun
      | .cells _ t frozen => .cells (tab.map fun z => Value.int .u8 z).toArray t frozen
      | o => o }
theorem laid_met (os : Os) (args : Array Value) : laidMetH Tryz.prog Rows.topFullRow.laid ((laidWorld os).forCall (fun _ _ => 0) ⟨#[], args, []⟩).memory := by
  rw [laidH_none (by kernel_rfl)]
  exact laidMet_of_run' 8 (by kernel_rfl) (by kernel_rfl)
theorem laidOut : laidOutB Tryz.prog = true := by kernel_rfl
@[reducible] def ty0 : Ty := (.pair (.int .u8) (.pair (.int .u8) (.pair (.int .u8) (.pair (.pair (.int .u64) (.pair (.int .u64) (.pair (.int .u64) .unit))) (.pair (.slice (.pair (.int .u8) (.pair (.int .u8) (.pair (.int .u8) (.pair (.slice (.int .u8)) .unit))))) .unit)))))
@[reducible] def ty2 : Ty := (.slice (.int .u8))
theorem agg_of {v : Value} {cs : List Value} (h : v.cells.toList = cs) (hl : cs.length ≠ 1) : v = .agg cs.toArray := by
  cases v <;> simp [Value.cells] at h
  case agg c => subst h; simp
  all_goals (subst h; simp at hl)

theorem walk (s0 : Ty.El ty0) (a1 : Int) (s2 : Ty.El ty2) (w : World) (ht : TabOk w) (r0 : Ty.Rd w ty0 s0) (w1 : (Lit.int .u16 a1).wf = true) (r2 : Ty.Rd w ty2 s2) :
    Calls Tryz.prog 5 #[.agg (Ty.cells ty0 s0).toArray, .int .u16 a1, .slice s2.a s2.l.length s2.c] w fun e w' => e = .returned (.bool true) ∧ Below w.heap.size w w' := by
  obtain ⟨ra, rb, rc, ⟨rd1, rd2, rd3, -⟩, re, -⟩ := r0
  obtain ⟨r, hr, hrb⟩ := nat8 ra
  obtain ⟨k, hk, hkb⟩ := nat8 rb
  obtain ⟨x, hx, hxb⟩ := nat8 rc
  obtain ⟨ta, hta⟩ := nat64' rd1
  obtain ⟨tb, htb⟩ := nat64' rd2
  obtain ⟨tc, htc⟩ := nat64' rd3
  obtain ⟨room, rfl, hrm⟩ := nat16 w1
  obtain ⟨fs, hfl, hfs⟩ := specs_of re
  obtain ⟨la, hla, hlc, hlm, hA⟩ := bytes_of r2
  show Calls Tryz.prog 5 #[.agg #[.int .u8 s0.1, .int .u8 s0.2.1, .int .u8 s0.2.2.1, .int .u64 s0.2.2.2.1.1, .int .u64 s0.2.2.2.1.2.1, .int .u64 s0.2.2.2.1.2.2.1, .slice s0.2.2.2.2.1.a s0.2.2.2.2.1.l.length s0.2.2.2.2.1.c], .int .u16 room, .slice s2.a s2.l.length s2.c] w _
  rw [hr, hk, hx, hta, htb, htc, hla, hfl]
  exact topFull r k x room hrb hkb hxb hrm ta tb tc fs _ _ la _ _ hlc hlm w ht hfs hA

theorem fits0 : Ty.Fits Tryz.prog ty0 27 := by
  exact ⟨_, Tryz.underlying27, by kernel_rfl, _, _, rfl, rfl, by kernel_rfl, Tryz.underlying5, ⟨_, _, rfl, rfl, by kernel_rfl, Tryz.underlying5, ⟨_, _, rfl, rfl, by kernel_rfl, Tryz.underlying5, ⟨_, _, rfl, rfl, by kernel_rfl, ⟨_, Tryz.underlying24, by kernel_rfl, _, _, rfl, rfl, by kernel_rfl, Tryz.underlying22, ⟨_, _, rfl, rfl, by kernel_rfl, Tryz.underlying22, ⟨_, _, rfl, rfl, by kernel_rfl, Tryz.underlying22, rfl⟩⟩⟩, ⟨_, _, rfl, rfl, by kernel_rfl, ⟨_, Tryz.underlying25, by kernel_rfl, ⟨_, Tryz.underlying130, by kernel_rfl, _, _, rfl, rfl, by kernel_rfl, Tryz.underlying5, ⟨_, _, rfl, rfl, by kernel_rfl, Tryz.underlying5, ⟨_, _, rfl, rfl, by kernel_rfl, Tryz.underlying5, ⟨_, _, rfl, rfl, by kernel_rfl, ⟨_, Tryz.underlying38, by kernel_rfl, Tryz.underlying5⟩, rfl⟩⟩⟩⟩⟩, rfl⟩⟩⟩⟩⟩

theorem fits2 : Ty.Fits Tryz.prog ty2 38 := by
  exact ⟨_, Tryz.underlying38, by kernel_rfl, Tryz.underlying5⟩

set_option maxRecDepth 100000 in
theorem lifted (os : Os) (started : os.Started) (H : Type) (enc : TypeId × Value → H) :
    ReturnsInHanded {} Tryz.checked os 5 .any (fun w args => (Rows.topFullSpec.pre enc Tryz.prog Tryz.f5 Rows.topFullRow.domain false w args ∧ laidMetH Tryz.prog Rows.topFullRow.laid w) ∧ sizedMet enc Tryz.prog Tryz.f5 (OpenSpec.ofChange Rows.topFullSpec) false w args) (Rows.topFullSpec.post enc Tryz.prog Tryz.f5 false true false false) := by
  refine returnsInHanded_of_change_and (C := Tryz.checked) (X := fun w _ => laidMetH Tryz.prog Rows.topFullRow.laid w) (fun _ _ _ hh h => h.of_heap hh) own started (by kernel_rfl) Tryz.func5
    (ChangeSpec.witness_at (enc := enc) (C := Tryz.checked) (os := os) (X := fun w _ => laidMetH Tryz.prog Rows.topFullRow.laid w) false (laidWorld os) #[.agg #[.int .u8 0, .int .u8 0, .int .u8 0, .int .u64 0, .int .u64 0, .int .u64 0, .slice none 0 0], .int .u16 0, .slice none 0 0] 16 rfl (by kernel_rfl) (by kernel_rfl) (by kernel_rfl) (by kernel_rfl) (by kernel_rfl) (laid_met os _)) ?_
  intro W base args ds gs before hval0 hW _ _ hL _
  have hval : ∀ (j : Nat) t v, Tryz.f5.params[j]? = some t → args[j]? = some v → Value.okWide Tryz.prog W .any base t v := hval0
  have hW' := hW
  obtain ⟨p, q, hA0, hV, rfl, hfz, hnd⟩ := hW
  have hA : DataW.TrodAll enc Tryz.prog W 0 (fun _ => true) true Tryz.f5.params.toList args.toList ds p := hA0
  rw [Tryz.params5] at hA hval
  obtain ⟨v0, vs0, d0, ds0, p0, q0, hargs, rfl, rfl, h0, r0⟩ := trodAll_cons hA
  obtain ⟨v1, vs1, d1, ds1, p1, q1, rfl, rfl, rfl, h1, r1⟩ := trodAll_cons r0
  obtain ⟨v2, vs2, d2, ds2, p2, q2, rfl, rfl, rfl, h2, r2⟩ := trodAll_cons r1
  obtain ⟨rfl, rfl, rfl⟩ := trodAll_nil r2
  obtain rfl : args = #[v0, v1, v2] := by cases args; simp_all
  obtain ⟨rfl, rfl⟩ := trodVars_none hV
  have k0 := h0
  have lt0 : ∀ x ∈ p0, x.block < W.heap.size := by obtain ⟨m, hm⟩ := k0; exact DataW.trod_lt m _ _ _ hm
  obtain ⟨s0, hs0, rd0⟩ : ∃ s : Ty.El ty0, v0.cells.toList = Ty.cells ty0 s ∧ Ty.Rd W ty0 s := by
    obtain ⟨fuel, hf⟩ := h0
    exact Ty.rd_of_trod ty0 fuel 27 _ _ fits0 hf
  obtain rfl := agg_of hs0 (by rw [Ty.cells_length]; decide)
  obtain ⟨a1, rfl, rfl, rfl, w1⟩ := open_int Tryz.underlying64 (hval 1 64 v1 rfl rfl) h1
  obtain ⟨x2, len2, cap2, rfl⟩ := okWide_slice Tryz.underlying38 (hval 2 38 v2 rfl rfl)
  have k2 := h2
  have lt2 : ∀ x ∈ p2, x.block < W.heap.size := by obtain ⟨m, hm⟩ := k2; exact DataW.trod_lt m _ _ _ hm
  obtain ⟨s2, hs2, rd2⟩ : ∃ s : Ty.El ty2, [Value.slice x2 len2 cap2] = Ty.cells ty2 s ∧ Ty.Rd W ty2 s := by
    obtain ⟨fuel, hf⟩ := h2
    exact Ty.rd_of_trod ty2 fuel 38 _ _ fits2 hf
  simp only [Ty.cells, List.cons.injEq, Value.slice.injEq, and_true] at hs2
  obtain ⟨rfl, rfl, rfl⟩ := hs2
  clear hA0 hval0
  refine (walk s0 a1 s2 W (tabOk hL) rd0 w1 rd2).mono fun e W' ⟨he, bel⟩ => ?_
  subst he
  exact ⟨_, rfl, _, _, _, [], _, [], hW', trodAll_mk1 (shut_bool Tryz.underlying4 _), (trodAll_cons_mk (Below.trod laidOut (by kernel_rfl) (of_decide_eq_true (by kernel_rfl)) k0 bel lt0) (trodAll_cons_mk (shut_int Tryz.underlying64 w1) (trodAll_cons_mk (Below.trod laidOut (by kernel_rfl) (of_decide_eq_true (by kernel_rfl)) k2 bel lt2) trodAll_mk0))), rfl, bel.frame _, fun h => by cases h⟩

theorem closed : joinedFacts Tryz.pinned.checked.prog 5 Tryz.f5 Rows.topFullSpec Rows.topFullRow = true := by kernel_rfl
theorem named : Tryz.pinned.checked.prog.funcNamed Rows.topFullRow.func = some 5 := by kernel_rfl
theorem over : Rows.topFullRow.holds Tryz.pinned (OpenSpec.ofChange Rows.topFullSpec) :=
  OpenClaim.holds_of_wide 5 Tryz.f5 rfl rfl rfl rfl rfl rfl rfl ⟨rfl, rfl, rfl, rfl, rfl⟩ rfl rfl rfl rfl rfl named Tryz.func5 closed
    (of_decide_eq_true (by as_aux_lemma => kernel_rfl)) (by as_aux_lemma => (unfold Func.isWrapper; first | (rw [if_pos (by decide +kernel)]; kernel_rfl) | (rw [if_neg (by decide +kernel)]; exact ⟨rfl, rfl⟩)))
    (fun os started H enc _ => lifted os started H enc)

theorem row_tie : Rows.topFullRow.laidByTextAt .later Tryz.pinned [.data] true := topFull_row_tie
/-- THE STATEMENT: the tied card -/
theorem proved : Rows.TopFullCardSaid :=
  Claim7.holds_tied_plain_at .later [] [.data] true (true, "d477ee797a29d59f17eece9cc9448f604df7576a09a05d461c5dd67b9605ebe0") false
    over (fun _ h => by cases h) (by kernel_rfl) (fun _ h => by cases h) row_tie rfl ⟨rfl, rfl⟩ (by kernel_rfl) rfl
    (fun f fn hf hfn => by
      obtain rfl : f = 5 := Option.some.inj ((show Tryz.prog.funcNamed "outworker/outworkertop.TopFull" = some 5 by kernel_rfl).symm.trans hf) |>.symm
      obtain rfl : fn = Tryz.f5 := (Option.some.inj (Tryz.func5.symm.trans hfn)).symm
      exact ⟨by kernel_rfl, fun j t ht => by
        rw [Tryz.params5] at ht
        have hts : ∀ x ∈ [27, 64, 38], Tryz.prog.wantsStandIn x = false := by
          intro x hx
          simp only [List.mem_cons, List.not_mem_nil, or_false] at hx
          rcases hx with rfl | rfl | rfl <;> kernel_rfl
        exact hts t (by have := Array.mem_of_getElem? ht; simpa using this)⟩)
    (by kernel_rfl)
#print axioms proved
end Go.Proofs.YtjkgligohegaeaaGreatDoor.topFull
