/- The leases whose time is over end. -/
import Derived.Test.YtjampaggidelgaaNextSome
namespace Go.Proofs.Ytjampaggidelgaa
open Go.RowKit
set_option linter.unusedSimpArgs false
set_option linter.unusedVariables false

def Job.due (j : Job) (now : Nat) : Bool := j.lease != 0 && decide (j.deadline ≤ now)
def Job.aged (j : Job) (t : Times) (now : Nat) : Job := if j.due now then j.over t now else j
/-- The jobs, of which the first k are looked at. -/
def agedTo (js : List Job) (t : Times) (now k : Nat) : List Job := (js.take k).map (·.aged t now) ++ js.drop k
def dueTo (js : List Job) (now k : Nat) : List Nat := (List.range k).filter fun i => match js[i]? with | some j => j.due now | none => false
theorem agedTo_length (js : List Job) (t : Times) (now k : Nat) (h : k ≤ js.length) : (agedTo js t now k).length = js.length := by
  simp [agedTo]; omega
theorem agedTo_get (js : List Job) (t : Times) (now k : Nat) (h : k < js.length) : (agedTo js t now k)[k]'(by rw [agedTo_length _ _ _ _ (by omega)]; exact h) = js[k] := by
  simp only [agedTo]
  rw [List.getElem_append_right (by simp; omega)]
  simp
  congr 1
  omega
theorem agedTo_succ (js : List Job) (t : Times) (now k : Nat) (h : k < js.length) : agedTo js t now (k + 1) = (agedTo js t now k).set k (js[k].aged t now) := by
  simp only [agedTo]
  rw [List.take_succ_eq_append_getElem h, List.set_append_right _ _ (by simp; omega)]
  have e : k - ((js.take k).map (·.aged t now)).length = 0 := by simp; omega
  rw [e, List.drop_eq_getElem_cons h]
  simp only [List.map_append, List.map_cons, List.map_nil, List.append_assoc, List.set_cons_zero, List.cons_append, List.nil_append]
theorem agedTo_keep (js : List Job) (t : Times) (now k : Nat) (h : k < js.length) (hd : js[k].due now = false) : agedTo js t now (k + 1) = agedTo js t now k := by
  rw [agedTo_succ js t now k h]
  have e : js[k].aged t now = (agedTo js t now k)[k]'(by rw [agedTo_length _ _ _ _ (by omega)]; exact h) := by rw [agedTo_get js t now k h]; simp [Job.aged, hd]
  rw [e, List.set_getElem_self]
theorem dueTo_succ (js : List Job) (now k : Nat) (h : k < js.length) : dueTo js now (k + 1) = dueTo js now k ++ if js[k].due now then [k] else [] := by
  simp only [dueTo, List.range_succ, List.filter_append]
  congr 1
  simp [List.filter_cons, h]
theorem dueTo_le (js : List Job) (now k : Nat) : (dueTo js now k).length ≤ k := by
  have := List.length_filter_le (fun i => match js[i]? with | some j => j.due now | none => false) (List.range k)
  simpa [dueTo] using this
def idxV (l : List Nat) : List Value := l.map fun (i : Nat) => Value.int .i64 (i : Int)
theorem own_kept {w1 w2 : World} {p B base n size : Nat} {e : TypeId} {v : Value} {xs : List Value} (h : w1.ownsRow base e size v n xs) (k : Kept w1 w2 p B) (hp : p < base) (hB : B < base) : w2.ownsRow base e size v n xs := by
  refine ⟨h.1, h.2.imp id ?_⟩
  rintro ⟨g, cap, cur, e, hb, hh, rest⟩
  exact ⟨g, cap, cur, e, hb, by rw [k.block g (Array.getElem?_eq_some_iff.1 hh).1 (by omega) (by omega)]; exact hh, rest⟩
theorem Kept.grown {w w1 w2 : World} {p B : Nat} {row : Option Nat} (h : Kept w w1 p B) (k : w1.grownBy w2 row) (hr : ∀ r, row = some r → w.heap.size ≤ r) : Kept w w2 p B :=
  ⟨k.os.trans h.os, k.tape.trans h.tape, k.output.trans h.output, Nat.le_trans h.size k.size, fun b hb h1 h2 =>
    (k.block b (Nat.lt_of_lt_of_le hb h.size) (fun e => by have := hr b e.symm; omega)).trans (h.block b hb h1 h2)⟩
theorem TabAt.grown {w w' : World} {p B : Nat} {js : List Job} {t : Times} {last : Nat} {row : Option Nat} (h : TabAt w p B js t last) (k : w.grownBy w' row) (h1 : some p ≠ row) (h2 : some B ≠ row) : TabAt w' p B js t last :=
  { h with head := by rw [k.block p h.lt.1 h1]; exact h.head, body := by rw [k.block B h.lt.2 h2]; exact h.body }
theorem expire_nil (now : Int) (w : World) : Calls Try.prog 13 #[.pointer none, .int .u64 now] w fun e w' => e = .returned (.slice none 0 0) ∧ w' = w := by
  go_enter Try.func13, Try.ntmps13
  go_wp2
  go_ret
  exact ⟨rfl, rfl⟩
theorem expire_late (p B : Nat) (js : List Job) (t : Times) (last now : Nat) (w : World) (h : TabAt w p B js t last) (hn : 1099511627776 < now) :
    Calls Try.prog 13 #[.pointer (some ⟨p, 0, none⟩), .int .u64 now] w fun e w' => e = .returned (.slice none 0 0) ∧ w' = w := by
  have hn' : (1099511627776 : Int) < (now : Int) := by omega
  clear h hn
  go_enter Try.func13, Try.ntmps13
  go_wp2
  go_ret
  exact ⟨rfl, rfl⟩
theorem infoInt : (Try.prog.info? 3).map (fun i => (i.zero, i.size, i.bytes)) = some (some (.int .i64 0), 1, 8) := by kernel_rfl
def ExpR (w : World) (p B : Nat) (js : List Job) (t : Times) (last now : Nat) (v : Value) (k : Nat) (wr : World) : Prop :=
  wr.ownsRow w.heap.size 3 1 v (dueTo js now k).length (idxV (dueTo js now k)) ∧ Kept w wr p B ∧ TabAt wr p B (agedTo js t now k) t last
section
variable {w wr wz : World} {p B : Nat} {js : List Job} {t : Times} {last now : Nat} {v : Value} {k : Nat}
theorem ExpR.below (h : ExpR w p B js t last now v k wr) (hb : Below wr.heap.size wr wz) : ExpR w p B js t last now v k wz :=
  ⟨h.1.kept (row := none) ⟨hb.os, hb.tape, hb.output, hb.size, fun k hk _ => hb.block k hk⟩ (by cases v.ownBlock <;> simp), h.2.1.trans (Kept.of_below hb), h.2.2.old hb⟩
theorem ExpR.keep (h : ExpR w p B js t last now v k wr) (hlt : k < js.length) (hd : js[k].due now = false) : ExpR w p B js t last now v (k + 1) wr := by
  refine ⟨?_, h.2.1, ?_⟩
  · rw [dueTo_succ js now k hlt, hd, if_neg (by simp), List.append_nil]; exact h.1
  · rw [agedTo_keep js t now k hlt hd]; exact h.2.2
theorem ExpR.turn {w2 w3 : World} {v' : Value} {row : Option Nat} (h : ExpR w p B js t last now v k wr) (hlt : k < js.length) (hd : js[k].due now = true) (hp : p < w.heap.size) (hB : B < w.heap.size)
    (hk : Kept wr w2 p B) (ht : TabAt w2 p B ((agedTo js t now k).set k (js[k].over t now)) t last)
    (hown : w3.ownsRow w.heap.size 3 1 v' ((dueTo js now k).length + 1) (idxV (dueTo js now k) ++ [.int .i64 k])) (hg : w2.grownBy w3 row) (hr : ∀ r, row = some r → w.heap.size ≤ r) : ExpR w p B js t last now v' (k + 1) w3 := by
  refine ⟨?_, (h.2.1.trans hk).grown hg hr, ?_⟩
  · rw [dueTo_succ js now k hlt, hd, if_pos rfl]
    simpa [idxV] using hown
  · rw [agedTo_succ js t now k hlt]
    have e : js[k].aged t now = js[k].over t now := by simp [Job.aged, hd]
    rw [e]
    exact ht.grown hg (fun e => by have := hr p e.symm; omega) (fun e => by have := hr B e.symm; omega)
end
set_option maxHeartbeats 1600000 in
theorem expire_in (p B : Nat) (js : List Job) (t : Times) (last now : Nat) (w : World) (h : TabAt w p B js t last) (hn : now ≤ 1099511627776) :
    Calls Try.prog 13 #[.pointer (some ⟨p, 0, none⟩), .int .u64 now] w fun e w' => Kept w w' p B ∧ TabAt w' p B (agedTo js t now js.length) t last ∧
      ∃ v, e = .returned v ∧ w'.ownsRow w.heap.size 3 1 v (dueTo js now js.length).length (idxV (dueTo js now js.length)) := by
  have c0 : w.cell? ⟨p, 0, none⟩ = some (.slice (some ⟨B, 0, none⟩) js.length js.length) := h.cellHead 0 (by omega)
  have hlt := h.lt
  have hsm := h.small
  have hn' : ¬ (1099511627776 : Int) < (now : Int) := by omega
  obtain ⟨i0, hi, hz0, hz1, hz2⟩ := info_parts infoInt
  have HI := Hd.mk (And.intro hi (And.intro hz0 (And.intro hz1 hz2)))
  have H := Hd.mk h
  have HN := Hd.mk (And.intro hn hlt)
  clear h hn hi hz0 hz1 hz2 hlt
  go_enter Try.func13, Try.ntmps13
  go_wp2_with fail
  go_loopw [5, 19] (fun v i wr => ∃ k : Nat, k ≤ js.length ∧ i = .int .i64 k ∧ ExpR w p B js t last now v k wr) (fun _ i _ => js.length - (intOf i).toNat)
  case atStart => exact ⟨0, Nat.zero_le _, rfl, World.ownsRow_nil w w.heap.size 3 1, Kept.refl _ _ _, (by rw [show agedTo js t now 0 = js from rfl]; exact H.out)⟩
  case round =>
    obtain ⟨k, hk, rfl, hE⟩ := hrel
    have HE := Hd.mk hE
    clear hE
    have hlen := agedTo_length js t now k hk
    by_cases hlt : k < js.length
    · have hk' : k < (agedTo js t now k).length := by omega
      have hgk := agedTo_get js t now k hlt
      have d0 : wr.cell? ⟨B, k * 5, none⟩ = some (.bool js[k].done) := by rw [← hgk]; exact HE.out.2.2.cellBody k hk' 0 (by omega)
      have d1 : wr.cell? ⟨B, k * 5 + 1, none⟩ = some (.int .u64 js[k].lease) := by rw [← hgk]; exact HE.out.2.2.cellBody k hk' 1 (by omega)
      have d2 : wr.cell? ⟨B, k * 5 + 2, none⟩ = some (.int .u64 js[k].deadline) := by rw [← hgk]; exact HE.out.2.2.cellBody k hk' 2 (by omega)
      have d3 : wr.cell? ⟨B, k * 5 + 3, none⟩ = some (.int .i64 js[k].tries) := by rw [← hgk]; exact HE.out.2.2.cellBody k hk' 3 (by omega)
      have d4 : wr.cell? ⟨B, k * 5 + 4, none⟩ = some (.int .u64 js[k].ready) := by rw [← hgk]; exact HE.out.2.2.cellBody k hk' 4 (by omega)
      have HL := Hd.mk (And.intro hlen hgk)
      clear hlen hgk
      have hsz := HE.out.2.1.size
      by_cases h0 : js[k].lease = 0
      · have h0' : ((js[k].lease : Int) != 0) = false := by simp [h0]
        have HD : Hd (js[k].due now = false) := ⟨by simp [Job.due, h0]⟩
        clear h0
        go_wp2
        go_roundw
        case rel => exact ⟨k + 1, by omega, by go_num, (HE.out.keep hlt HD.out).below ((Below.refl _ _).alloc (Nat.le_refl _) _)⟩
        case measure => simp [intOf]; omega
      · have h0' : ((js[k].lease : Int) != 0) = true := by simp [h0]
        by_cases h1 : js[k].deadline ≤ now
        · have h1' : (js[k].deadline : Int) ≤ (now : Int) := by omega
          have HD : Hd (js[k].due now = true) := ⟨by simp [Job.due, h0, h1]⟩
          clear h0 h1
          go_wp2_with fail
          have hbw : Below wr.heap.size wr (wr.alloc (.cells #[.bool js[k].done, .int .u64 js[k].lease, .int .u64 js[k].deadline, .int .i64 js[k].tries, .int .u64 js[k].ready] 40)) := (Below.refl _ _).alloc (Nat.le_refl _) _
          have HE1 := Hd.mk (HE.out.below hbw)
          clear hbw
          have hy := back_any p B (agedTo js t now k) t last k now _ HE1.out.2.2 hk' HN.out.1
          rw [HL.out.2] at hy
          refine hy.mono ?_
          clear hy
          rintro e w2 ⟨⟨ve, rfl⟩, ht, hkp⟩
          have HT2 := Hd.mk ht
          have HK2 := Hd.mk hkp
          clear ht hkp
          have HO2 := Hd.mk (own_kept HE1.out.1 HK2.out HN.out.2.1 HN.out.2.2)
          have hle := dueTo_le js now k
          have HS2 : Hd (w.heap.size ≤ w2.heap.size) := ⟨Nat.le_trans HE1.out.2.1.size HK2.out.size⟩
          clear d0 d1 d2 d3 d4
          go_wp2_with (first
            | (at_builtin; refine wpList_append_row rfl (.tmp 37) (.tmp 39) 34 rfl w.heap.size 3 i0 (.int .i64 0) 8 Try.underlying34 HI.out.1 HI.out.2.1 HI.out.2.2.1 HI.out.2.2.2 rfl _ (dueTo js now k).length (idxV (dueTo js now k)) rfl (HO2.out.alloc _) (some ⟨w2.heap.size, 0, none⟩) 1 1 [Value.int .i64 k] rfl rfl (row_new _ _ _ _) ?x0 ?x1 ?x2 ?x3 ?x4))
          case x0 => intro u hu; simp at hu; subst hu; rfl
          case x1 => omega
          case x2 => unfold maxLen; omega
          case x3 => have := HS2.out; simp; omega
          case x4 =>
            intro v3 w3 ho3 hg3
            have hk3 : Kept (wr.alloc (.cells #[.bool js[k].done, .int .u64 js[k].lease, .int .u64 js[k].deadline, .int .i64 js[k].tries, .int .u64 js[k].ready] 40)) (w2.alloc (.cells #[Value.int .i64 k] 3)) p B := HK2.out.trans (Kept.of_below ((Below.refl _ _).alloc (Nat.le_refl _) _))
            have ht3 := HT2.out.old ((Below.refl w2.heap.size w2).alloc (Nat.le_refl _) (.cells #[Value.int .i64 k] 3))
            have HE3 := Hd.mk (HE1.out.turn hlt HD.out HN.out.2.1 HN.out.2.2 hk3 ht3 ho3 hg3 (fun r hr => (HO2.out.lt r hr).1))
            clear hk3 ht3 ho3 hg3
            go_wp2
            go_roundw
            case rel => exact ⟨k + 1, by omega, by go_num, HE3.out⟩
            case measure => simp [intOf]; omega
        · have h1' : ¬ (js[k].deadline : Int) ≤ (now : Int) := by omega
          have HD : Hd (js[k].due now = false) := ⟨by simp [Job.due, h1]⟩
          clear h0 h1
          go_wp2
          go_roundw
          case rel => exact ⟨k + 1, by omega, by go_num, (HE.out.keep hlt HD.out).below ((Below.refl _ _).alloc (Nat.le_refl _) _)⟩
          case measure => simp [intOf]; omega
    · obtain rfl : k = js.length := by omega
      clear hlen
      go_wp2
      go_ret
      exact ⟨HE.out.2.1, HE.out.2.2, _, rfl, HE.out.1⟩
end Go.Proofs.Ytjampaggidelgaa
