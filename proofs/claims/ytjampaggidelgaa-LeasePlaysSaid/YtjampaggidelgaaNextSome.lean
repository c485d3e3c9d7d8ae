/- The next job, where there is one. -/
import Derived.Test.YtjampaggidelgaaNext
import Derived.Test.YtjampaggidelgaaRelyTail
import Derived.Deep.QuietTactic
import Derived.BigQuiet
namespace Go.Proofs.Ytjampaggidelgaa
open Go.RowKit
set_option linter.unusedSimpArgs false
set_option linter.unusedVariables false
theorem first_lt {js : List Job} {now i : Nat} (h : firstFree js now = some i) : ∃ hi : i < js.length, js[i].free now = true := by
  unfold firstFree at h
  rw [List.findIdx?_eq_some_iff_getElem] at h
  obtain ⟨h1, h2, _⟩ := h
  exact ⟨h1, h2⟩
theorem Kept.drewN (w : World) (n p B : Nat) : Kept w (w.drewN n) p B := ⟨rfl, rfl, rfl, Nat.le_refl _, fun _ _ _ _ => rfl⟩
/-- What the three stores do, one behind the other. -/
def Job.part (j : Job) (t : Times) (L now : Nat) (a b : Bool) : Job := { j with lease := if a then L else j.lease, deadline := if b then now + t.lease else j.deadline }
def Mid (w0 : World) (p B : Nat) (js : List Job) (t : Times) (L now i : Nat) (j : Job) (a b : Bool) (w : World) : Prop := Kept w0 w p B ∧ TabAt w p B (js.set i (j.part t L now a b)) t L
def MidR (w0 : World) (p B : Nat) (js : List Job) (t : Times) (L now i : Nat) (j : Job) (w1 w2 : World) : Prop :=
  ∀ a b, Mid w0 p B js t L now i j a b w1 → ∃ a' b', (a = true → a' = true) ∧ (b = true → b' = true) ∧ Mid w0 p B js t L now i j a' b' w2
theorem MidR.refl (w0 : World) (p B : Nat) (js : List Job) (t : Times) (L now i : Nat) (j : Job) (w : World) : MidR w0 p B js t L now i j w w := fun a b h => ⟨a, b, id, id, h⟩
theorem MidR.trans {w0 : World} {p B : Nat} {js : List Job} {t : Times} {L now i : Nat} {j : Job} {w1 w2 w3 : World} (h : MidR w0 p B js t L now i j w1 w2) (k : MidR w0 p B js t L now i j w2 w3) : MidR w0 p B js t L now i j w1 w3 := fun a b m => by
  obtain ⟨a1, b1, ha, hb, m1⟩ := h a b m
  obtain ⟨a2, b2, ha2, hb2, m2⟩ := k a1 b1 m1
  exact ⟨a2, b2, fun x => ha2 (ha x), fun x => hb2 (hb x), m2⟩
section
variable {w0 w : World} {p B : Nat} {js : List Job} {t : Times} {L now i : Nat} {j : Job} {a b : Bool}
theorem Mid.get (h : Mid w0 p B js t L now i j a b w) (hi : i < js.length) (k : Nat) (hk : k < 5) : w.cell? ⟨B, i * 5 + k, none⟩ = (j.part t L now a b).cells[k]? := by
  have := h.2.cellBody i (by simpa using hi) k hk
  simpa using this
theorem Mid.one (h : Mid w0 p B js t L now i j a b w) (hi : i < js.length) (hL : L < 18446744073709551616) : Mid w0 p B js t L now i j true b (w.setCell ⟨B, i * 5 + 1, none⟩ (.int .u64 L)) := by
  refine ⟨h.1.trans (Kept.setCell _ _ _ _ _ (.inr rfl)), ?_⟩
  have hf := h.2.fits (j.part t L now a b) (List.mem_iff_getElem.2 ⟨i, by simpa using hi, by simp⟩)
  have := h.2.setJob i (by simpa using hi) 1 (by omega) (j.part t L now true b) (.int .u64 L) (by simp [Job.cells, Job.part]) ⟨by simpa [Job.part] using hL, by simpa [Job.part] using hf.deadline, by simpa [Job.part] using hf.tries, by simpa [Job.part] using hf.ready⟩
  simpa only [List.set_set] using this
theorem Mid.two (h : Mid w0 p B js t L now i j a b w) (hi : i < js.length) (hD : now + t.lease < 18446744073709551616) : Mid w0 p B js t L now i j a true (w.setCell ⟨B, i * 5 + 2, none⟩ (.int .u64 (now + t.lease : Nat))) := by
  refine ⟨h.1.trans (Kept.setCell _ _ _ _ _ (.inr rfl)), ?_⟩
  have hf := h.2.fits (j.part t L now a b) (List.mem_iff_getElem.2 ⟨i, by simpa using hi, by simp⟩)
  have := h.2.setJob i (by simpa using hi) 2 (by omega) (j.part t L now a true) (.int .u64 (now + t.lease : Nat)) (by simp [Job.cells, Job.part]) ⟨by simpa [Job.part] using hf.lease, by simpa [Job.part] using hD, by simpa [Job.part] using hf.tries, by simpa [Job.part] using hf.ready⟩
  simpa only [List.set_set] using this
theorem Mid.three (h : Mid w0 p B js t L now i j true true w) (hi : i < js.length) (m : Nat) (hm : m ≤ 64) : Kept w0 (w.setCell ⟨B, i * 5 + 3, none⟩ (.int .i64 m)) p B ∧ TabAt (w.setCell ⟨B, i * 5 + 3, none⟩ (.int .i64 m)) p B (js.set i { j with lease := L, deadline := now + t.lease, tries := m }) t L := by
  refine ⟨h.1.trans (Kept.setCell _ _ _ _ _ (.inr rfl)), ?_⟩
  have hf := h.2.fits (j.part t L now true true) (List.mem_iff_getElem.2 ⟨i, by simpa using hi, by simp⟩)
  have := h.2.setJob i (by simpa using hi) 3 (by omega) { j with lease := L, deadline := now + t.lease, tries := m } (.int .i64 m) (by simp [Job.cells, Job.part]) ⟨hf.lease, hf.deadline, hm, hf.ready⟩
  simpa only [List.set_set] using this
end
def MidA (w0 : World) (p B : Nat) (js : List Job) (t : Times) (L now i : Nat) (j : Job) (w : World) : Prop := ∃ b', Mid w0 p B js t L now i j true b' w
def nextV (p B i last now D c m : Nat) (tl : Nat) (k : Nat) : Value := match k with
  | 0 | 1 | 2 | 14 | 15 | 20 | 23 | 26 => .pointer (some ⟨B, i * 5, none⟩)
  | 3 | 4 | 8 | 9 => .pointer (some ⟨p, 0, none⟩)
  | 5 => .pointer (some ⟨p, 4, none⟩)
  | 6 => .int .u64 (last + 1 : Int)
  | 7 => .int .u64 now
  | 10 | 11 => .pointer (some ⟨p, 1, none⟩)
  | 12 => .int .u64 tl
  | 13 => .int .u64 D
  | 16 | 27 => .pointer (some ⟨B, i * 5 + 3, none⟩)
  | 17 => .int .i64 c
  | 18 => .int .i64 (c + 1 : Int)
  | 19 => .int .i64 m
  | 21 => .pointer (some ⟨B, i * 5 + 1, none⟩)
  | 24 => .pointer (some ⟨B, i * 5 + 2, none⟩)
  | _ => undef
def NextG (w0 : World) (p B : Nat) (js : List Job) (t : Times) (last now i : Nat) (j : Job) (D c m : Nat) (k : Nat) (v : Value) (w : World) : Prop := match k with
  | 22 => MidA w0 p B js t (last + 1) now i j w
  | 25 => Hd (Mid w0 p B js t (last + 1) now i j true true w)
  | k => v = nextV p B i last now D c m t.lease k
theorem NextG.stable {w0 : World} {p B : Nat} {js : List Job} {t : Times} {last now i : Nat} {j : Job} {D c m : Nat} (k : Nat) (v : Value) (w1 w2 : World) (h : NextG w0 p B js t last now i j D c m k v w1) (hR : MidR w0 p B js t (last + 1) now i j w1 w2) : NextG w0 p B js t last now i j D c m k v w2 := by
  unfold NextG at h ⊢
  split at h
  · obtain ⟨b, h⟩ := h
    obtain ⟨a', b', ha, hb, h2⟩ := hR _ _ h
    rw [ha rfl] at h2
    exact ⟨b', h2⟩
  · obtain ⟨a', b', ha, hb, h2⟩ := hR _ _ h.out
    rw [ha rfl, hb rfl] at h2
    exact ⟨h2⟩
  · exact h
theorem minI (a c : Nat) (h : c = min (a + 1) 64) (ts : Array TypeId) (t : TypeId) (w : World) :
    (Builtin.min_ ts t #[.int .i64 ((a : Int) + 1), .int .i64 64]).run Try.prog w = .ok (.int .i64 (c : Int)) w := by
  rw [run_min_int2]
  congr 2
  subst h
  split <;> omega
set_option maxHeartbeats 1600000 in
theorem next_some (p B : Nat) (js : List Job) (t : Times) (last now i : Nat) (w : World) (h : TabAt w p B js t last) (hn : now ≤ 1099511627776) (hl : last < 18446744073709551615) (hf : firstFree js now = some i) (hi : i < js.length) :
    Calls Try.prog 12 #[.pointer (some ⟨p, 0, none⟩), .int .u64 now] w fun e w' => e = .returned (.tuple #[.int .i64 i, .int .u64 (last + 1), .bool true]) ∧ Kept w w' p B ∧ TabAt w' p B (js.set i { js[i] with lease := last + 1, deadline := now + t.lease, tries := min (js[i].tries + 1) 64 }) t (last + 1) := by
  have hlt := h.lt
  have c0 : w.cell? ⟨p, 0, none⟩ = some (.slice (some ⟨B, 0, none⟩) js.length js.length) := h.cellHead 0 (by omega)
  have c4 : w.cell? ⟨p, 4, none⟩ = some (.int .u64 last) := h.cellHead 4 (by omega)
  have hne : ¬ w.heap.size = p := by omega
  have hne2 : ¬ p = w.heap.size := by omega
  have h1 : ¬ (1099511627776 : Int) < (now : Int) := by omega
  have h2 : ((last : Int) == 18446744073709551615) = false := beq_eq_false_iff_ne.2 (by omega)
  have H := Hd.mk h
  have HF := Hd.mk hf
  have HN := Hd.mk (And.intro hn hl)
  clear h hn hl hf
  go_enter Try.func12, Try.ntmps12
  go_wp2_with fail
  have hb1 : Below w.heap.size w (w.alloc (.cells #[.int .u64 now] 22)) := (Below.refl _ _).alloc (Nat.le_refl _) _
  have hy := index_any p B js t last now w.heap.size _ (H.out.old hb1) (cell_new w (.int .u64 now) 22)
  rw [HF.out] at hy
  have HB := Hd.mk hb1
  clear hb1
  refine hy.mono ?_
  clear hy
  rintro e w2 ⟨rfl, hb2⟩
  have hcn : w2.cell? ⟨w.heap.size, 0, none⟩ = some (.int .u64 now) := (hb2.cell (p := ⟨w.heap.size, 0, none⟩) (by simp)).trans (cell_new w (.int .u64 now) 22)
  have HB2 : Hd (Below w.heap.size w w2) := ⟨HB.out.trans (hb2.mono HB.out.size)⟩
  have H2 : Hd (TabAt w2 p B js t last) := ⟨H.out.old HB2.out⟩
  clear hb2 c0 c4
  have c0 : w2.cell? ⟨p, 0, none⟩ = some (.slice (some ⟨B, 0, none⟩) js.length js.length) := H2.out.cellHead 0 (by omega)
  have c4 : w2.cell? ⟨p, 4, none⟩ = some (.int .u64 last) := H2.out.cellHead 4 (by omega)
  have f4 := H2.out.freeHead 4
  have hwr : IntKind.u64.wrap ((last : Int) + 1) = ((last + 1 : Nat) : Int) := by rw [show ((last : Int) + 1) = ((last + 1 : Nat) : Int) from by omega]; exact wrapU _ (by have := HN.out.2; omega)
  have hneB := H.out.ne
  rw [show firstV (some i) = (i : Int) from rfl]
  have hT : TabAt (w2.setCell ⟨p, 4, none⟩ (.int .u64 (last + 1 : Nat))) p B js t (last + 1) := H2.out.setLast (last + 1) (by have := HN.out.2; omega)
  have hKp : Kept w2 (w2.setCell ⟨p, 4, none⟩ (.int .u64 (last + 1 : Nat))) p B := Kept.setCell _ _ _ _ _ (.inl rfl)
  go_wp2_with fail
  obtain ⟨w3, hw3⟩ : ∃ w3, w3 = w2.setCell ⟨p, 4, none⟩ (.int .u64 (last + 1 : Int)) := ⟨_, rfl⟩
  rw [← hw3]
  have e3 : w2.setCell ⟨p, 4, none⟩ (.int .u64 (last + 1 : Nat)) = w3 := by rw [hw3]; rfl
  rw [e3] at hT hKp
  have HT := Hd.mk hT
  have HK := Hd.mk hKp
  have hM0 : Mid w3 p B js t (last + 1) now i js[i] false false w3.drew := ⟨Kept.drew _ _ _, by
    have e : js[i].part t (last + 1) now false false = js[i] := rfl
    rw [e, List.set_getElem_self]
    exact (HT.out.drewN 1)⟩
  have HM0 := Hd.mk hM0
  have hcn3 : w3.cell? ⟨w.heap.size, 0, none⟩ = some (.int .u64 now) := by
    unfold World.cell? at hcn ⊢
    rw [HK.out.block w.heap.size ?_ hne (by omega)]
    · exact hcn
    · have := HB2.out.size
      have := World.block_lt_of_cell? w2 ⟨w.heap.size, 0, none⟩ hcn
      exact this
  have HCN := Hd.mk hcn3
  clear hT hKp hM0 hcn3 hw3 e3 hcn c0 c4 f4 hwr
  obtain ⟨b, hb⟩ : ∃ b, b = w.heap.size := ⟨_, rfl⟩
  rw [← hb] at HCN ⊢
  have HBB := Hd.mk hb
  clear hb
  obtain ⟨D, hD⟩ : ∃ D, D = now + t.lease := ⟨_, rfl⟩
  have hDb : D ≤ 2199023255552 := by have := HT.out.tl; have := HN.out.1; omega
  have hsum : IntKind.u64.wrap ((now : Int) + (t.lease : Int)) = (D : Int) := by rw [show ((now : Int) + (t.lease : Int)) = (D : Int) from by omega]; exact wrapU _ (by omega)
  obtain ⟨c, hc⟩ : ∃ c, c = js[i].tries := ⟨_, rfl⟩
  have hcb : c ≤ 64 := by rw [hc]; exact (HT.out.fits _ (List.getElem_mem hi)).tries
  obtain ⟨m, hm⟩ : ∃ m, m = min (c + 1) 64 := ⟨_, rfl⟩
  have HMM := Hd.mk (And.intro hm (And.intro hc (And.intro hD (And.intro hsum (And.intro hDb (And.intro hcb hi))))))
  clear hm hc hD hsum hDb hcb
  refine wp_region_rely_tail 28 (by kernel_rfl) (by kernel_rfl) (by kernel_rfl) (NextG w3 p B js t last now i js[i] D c m)
    (MidR w3 p B js t (last + 1) now i js[i]) (MidR.refl _ _ _ _ _ _ _ _ _ _) (fun w1 w2 w3 h1 h2 => h1.trans h2) NextG.stable (n := 74) (by kernel_rfl) rfl ?_ ?_
  · simp only [Obl, List.take_succ_cons, List.take_zero]
    refine ⟨?_, ?_, ?_, ?_, ?_, ?_, ?_, ?_, ?_, ?_, ?_, ?_, ?_, ?_, ?_, ?_, ?_, ?_, ?_, ?_, ?_, ?_, ?_, ?_, ?_, ?_, ?_, ?_, trivial⟩
    all_goals
      intro vs w' hR hK
      simp [depsOf, Region.binds, putsOn, dstOf, Act.put, Known, seen, NextG, nextV] at hK ⊢
    case refine_7 =>
      obtain ⟨a1, b1, -, -, hM⟩ := hR _ _ HM0.out
      have c4 : w'.cell? ⟨p, 4, none⟩ = some (.int .u64 (last + 1 : Int)) := hM.2.cellHead 4 (by omega)
      clear hM
      go_wp2
      exact ⟨rfl, rfl, MidR.refl _ _ _ _ _ _ _ _ _ _, rfl⟩
    case refine_8 =>
      obtain ⟨a1, b1, -, -, hM⟩ := hR _ _ HM0.out
      have cb : w'.cell? ⟨b, 0, none⟩ = some (.int .u64 now) := by
        have h := HCN.out
        unfold World.cell? at h ⊢
        have e := HBB.out
        rw [hM.1.block b (World.block_lt_of_cell? w3 ⟨b, 0, none⟩ HCN.out) (by omega) (by omega)]
        exact h
      clear hM
      go_wp2
      exact ⟨rfl, rfl, MidR.refl _ _ _ _ _ _ _ _ _ _, rfl⟩
    case refine_13 =>
      obtain ⟨a1, b1, -, -, hM⟩ := hR _ _ HM0.out
      have c1 : w'.cell? ⟨p, 1, none⟩ = some (.int .u64 t.lease) := hM.2.cellHead 1 (by omega)
      clear hM
      go_wp2
      exact ⟨rfl, rfl, MidR.refl _ _ _ _ _ _ _ _ _ _, rfl⟩
    case refine_14 =>
      have hsum := HMM.out.2.2.2.1
      go_wp2
      exact ⟨rfl, rfl, MidR.refl _ _ _ _ _ _ _ _ _ _, rfl⟩
    case refine_18 =>
      obtain ⟨a1, b1, -, -, hM⟩ := hR _ _ HM0.out
      have c3 : w'.cell? ⟨B, i * 5 + 3, none⟩ = some (.int .i64 c) := by rw [hM.get hi 3 (by omega), HMM.out.2.1]; rfl
      clear hM
      go_wp2
      exact ⟨rfl, rfl, MidR.refl _ _ _ _ _ _ _ _ _ _, rfl⟩
    case refine_19 =>
      have hcb := HMM.out.2.2.2.2.2.1
      go_wp2
      exact ⟨rfl, rfl, MidR.refl _ _ _ _ _ _ _ _ _ _, rfl⟩
    case refine_20 =>
      have hmin := minI c m HMM.out.1
      go_wp2
      exact ⟨rfl, rfl, MidR.refl _ _ _ _ _ _ _ _ _ _, rfl⟩
    case refine_23 =>
      obtain ⟨a1, b1, -, -, hM⟩ := hR _ _ HM0.out
      have c1 : w'.cell? ⟨B, i * 5 + 1, none⟩ = some (.int .u64 (js[i].part t (last + 1) now a1 b1).lease) := hM.get hi 1 (by omega)
      have f1 := hM.2.freeBody (i * 5 + 1)
      have HM := Hd.mk hM
      clear hM
      go_wp2
      exact ⟨rfl, rfl, fun a b h => ⟨true, b, fun _ => rfl, id, h.one hi (by have := HN.out.2; omega)⟩, ⟨b1, HM.out.one hi (by have := HN.out.2; omega)⟩⟩
    case refine_26 =>
      obtain ⟨b1, hM⟩ : MidA w3 p B js t (last + 1) now i js[i] w' := by simp only [hK]
      have c1 : w'.cell? ⟨B, i * 5 + 2, none⟩ = some (.int .u64 (js[i].part t (last + 1) now true b1).deadline) := hM.get hi 2 (by omega)
      have f1 := hM.2.freeBody (i * 5 + 2)
      have HM := Hd.mk hM
      have hD := HMM.out.2.2.1
      have hDb := HMM.out.2.2.2.2.1
      subst hD
      clear hM
      go_wp2
      exact ⟨rfl, rfl, fun a b h => ⟨a, true, id, fun _ => rfl, h.two hi (by omega)⟩, ⟨HM.out.two hi (by omega)⟩⟩
    all_goals
      go_wp2
      exact ⟨rfl, rfl, MidR.refl _ _ _ _ _ _ _ _ _ _, rfl⟩
  · intro vs w' hR hK
    simp [Known, List.range, List.range.loop, NextG, nextV] at hK
    simp [putsOn, dstOf, Act.put, List.range, List.range.loop]
    obtain ⟨hM⟩ : Hd (Mid w3 p B js t (last + 1) now i js[i] true true w') := by simp only [hK]
    obtain ⟨h19, h27⟩ : vs 19 = .int .i64 m ∧ vs 27 = .pointer (some ⟨B, i * 5 + 3, none⟩) := by simp only [hK, and_self]
    clear hK hR
    have c3 : w'.cell? ⟨B, i * 5 + 3, none⟩ = some (.int .i64 js[i].tries) := hM.get hi 3 (by omega)
    have f3 := hM.2.freeBody (i * 5 + 3)
    have hM3 := hM.three hi m (by have := HMM.out.1; omega)
    have HM := Hd.mk hM
    have HM3 := Hd.mk hM3
    have c4 : w'.cell? ⟨p, 4, none⟩ = some (.int .u64 (last + 1 : Int)) := hM.2.cellHead 4 (by omega)
    clear hM hM3
    go_wp2_with fail
    go_quiet (fail)
    go_wp2
    go_ret3
    refine ⟨rfl, ((((Kept.of_below HB2.out).trans HK.out).trans HM3.out.1).trans (Kept.drewN _ nq p B)), ?_⟩
    have e1 : m = min (js[i].tries + 1) 64 := by rw [HMM.out.1, HMM.out.2.1]
    rw [← e1]
    exact HM3.out.2.drewN nq
end Go.Proofs.Ytjampaggidelgaa
