/- The walk of PostTypes. -/
import Derived.Test.YtdehkpdimghilaaAwake
import Derived.Test.YtdehkpdimghilaaInstI
import Derived.Test.YtdehkpdimghilaaInstT
namespace Go.Proofs.Ytdehkpdimghilaa
open Go.RowKit
set_option linter.unusedSimpArgs false
set_option linter.unusedVariables false

def numV (n : Int) : Value := .int .i64 n
def boxV (n : Int) : Value := .agg #[.int .i64 n]
def Nums (w : World) (A : Option Addr) (l : List Int) : Prop := Row w A (l.map numV)
theorem Nums.at_ {w : World} {A : Option Addr} {l : List Int} (h : Nums w A l) (j : Nat) (hj : j < l.length) :
    ∃ b off, A = some ⟨b, off, none⟩ ∧ w.cell? ⟨b, off + j, none⟩ = some (.int .i64 l[j]) := by
  obtain ⟨b, off, e, hc⟩ := h j (by simpa using hj)
  exact ⟨b, off, e, by rw [hc]; simp [numV]⟩

theorem postTypes_big (A : Option Addr) (n c : Nat) (w : World) (h : n = 0 ∨ 256 < n) (hn : n ≤ maxLen) : Calls Try.prog 4 #[.slice A n c] w fun e w' => e = .returned (.bool true) ∧ Below w.heap.size w w' := by
  unfold maxLen at hn
  by_cases h1 : n = 0
  · subst h1
    go_enter Try.func4, Try.ntmps4
    go_wp2_with (go_at_call 8; refine (awake _).mono ?_; rintro e w' ⟨rfl, hb⟩)
    go_ret
    exact ⟨rfl, hb⟩
  · have h2 : 256 < n := by omega
    go_enter Try.func4, Try.ntmps4
    go_wp2_with (go_at_call 8; refine (awake _).mono ?_; rintro e w' ⟨rfl, hb⟩)
    go_ret
    exact ⟨rfl, hb⟩

/-- How far the two boxes are. -/
structure Two (w : World) (wr : World) (p c q d n : Nat) (xs ys : List Value) : Prop where
  fst : BoxAt wr p c 70 n xs
  snd : BoxAt wr q d 73 n ys
  below : Below w.heap.size w wr

theorem Two.alloc {w wr : World} {p c q d n : Nat} {xs ys : List Value} (h : Two w wr p c q d n xs ys) (o : Obj) : Two w (wr.alloc o) p c q d n xs ys :=
  have hb : Below wr.heap.size wr (wr.alloc o) := (Below.refl _ _).alloc (Nat.le_refl _) o
  ⟨h.fst.below hb, h.snd.below hb, h.below.alloc h.below.size o⟩

set_option maxRecDepth 100000 in
set_option maxHeartbeats 1600000 in
theorem postTypes (A : Option Addr) (l : List Int) (cp : Nat) (w : World) (ha : Nums w A l) (h0 : 0 < l.length) (h1 : l.length ≤ 256) :
    Calls Try.prog 4 #[.slice A l.length cp] w fun e w' => e = .returned (.bool true) ∧ Below w.heap.size w w' := by
  have HA := Hd.mk ha
  have hz : ((l.length : Int) == 0) = false := by rw [beq_eq_false_iff_ne]; omega
  clear ha
  go_enter Try.func4, Try.ntmps4
  go_wp2_with fail
  refine (awake _).mono ?_
  rintro e w1 ⟨rfl, hb⟩
  have L1 := Hd.mk hb
  clear hb
  go_wp2_with fail
  refine (I.new_ok l.length w1 h0 h1).mono ?_
  rintro e w2 ⟨p, c, rfl, hbx, hbl, hp, hc⟩
  have B2 := Hd.mk hbx
  have L2 : Hd (Below w.heap.size w w2) := ⟨L1.out.trans (hbl.mono L1.out.size)⟩
  have hpw : w.heap.size ≤ p := Nat.le_trans L1.out.size hp
  have hcw : w.heap.size ≤ c := Nat.le_trans L1.out.size hc
  clear hbx hbl hp hc
  go_wp2_with fail
  refine (T.new_ok l.length w2 h0 h1).mono ?_
  rintro e w3 ⟨q, d, rfl, hbx, hbl, hq, hd⟩
  have hqw : w.heap.size ≤ q := Nat.le_trans L2.out.size hq
  have hdw : w.heap.size ≤ d := Nat.le_trans L2.out.size hd
  have hplt := B2.out.lt
  have hclt := B2.out.chan.lt
  have hpd : p ≠ d := by omega
  have hcd : c ≠ d := by omega
  have hqc : q ≠ c := by omega
  have HT : Hd (Two w w3 p c q d l.length [] []) := ⟨⟨B2.out.below hbl, hbx, L2.out.trans (hbl.mono L2.out.size)⟩⟩
  have HX := Hd.mk (And.intro hpd (And.intro hcd hqc))
  clear hbx hbl hq hd hplt hclt hpd hcd hqc B2 L2 L1
  go_wp2
  go_loopw [41] (fun i wr => ∃ k : Nat, k ≤ l.length ∧ i = .int .i64 k ∧ Two w wr p c q d l.length ((l.take k).map numV) ((l.take k).map boxV)) (fun i _ => l.length - (intOf i).toNat)
  case atStart => exact ⟨0, Nat.zero_le _, rfl, HT.out⟩
  case round =>
    obtain ⟨k, hk, rfl, ht⟩ := hrel
    have HK := Hd.mk ht
    clear ht
    by_cases hlt : k < l.length
    · obtain ⟨b, off, rfl, hcell⟩ := (show Nums wr A l from Row.below HA.out HK.out.below).at_ k hlt
      obtain ⟨x, hx⟩ : ∃ x, x = l[k] := ⟨_, rfl⟩
      rw [← hx] at hcell
      have HXX := Hd.mk hx
      clear hx
      go_wp2_with fail
      have hy := I.put_room p c l.length ((l.take k).map numV) (.int .i64 x) wr HK.out.fst (by simp <;> omega)
      refine hy.mono ?_
      clear hy
      rintro e w4 ⟨rfl, hs⟩
      have K4 : Hd (Two w w4 p c q d l.length ((l.take (k + 1)).map numV) ((l.take k).map boxV)) := ⟨by
        have e1 : (l.take (k + 1)).map numV = (l.take k).map numV ++ [.int .i64 x] := by
          rw [List.take_succ_eq_append_getElem hlt, List.map_append, ← HXX.out]
          rfl
        rw [e1]
        exact ⟨HK.out.fst.step hs (by simp <;> omega), HK.out.snd.other hs.grown (by simp; exact HX.out.2.2) (by simp; exact HX.out.2.1.symm), hs.under HK.out.below HK.out.below.size hcw⟩⟩
      clear hs
      go_wp2_with fail
      have hy := T.put_room q d l.length ((l.take k).map boxV) x w4 K4.out.snd (by simp <;> omega)
      refine hy.mono ?_
      clear hy
      rintro e w5 ⟨rfl, hs⟩
      have K5 : Hd (Two w w5 p c q d l.length ((l.take (k + 1)).map numV) ((l.take (k + 1)).map boxV)) := ⟨by
        have e1 : (l.take (k + 1)).map boxV = (l.take k).map boxV ++ [.agg #[.int .i64 x]] := by
          rw [List.take_succ_eq_append_getElem hlt, List.map_append, ← HXX.out]
          rfl
        rw [e1]
        exact ⟨K4.out.fst.other hs.grown (by simp; exact HX.out.1) (by simp; exact HX.out.2.1), K4.out.snd.step hs (by simp <;> omega), hs.under K4.out.below K4.out.below.size hdw⟩⟩
      clear hs
      go_wp2
      go_roundw
      case rel => exact ⟨k + 1, by omega, by go_num, K5.out⟩
      case measure => simp [intOf]; omega
    · obtain rfl : k = l.length := by omega
      rw [List.take_length] at HK
      go_wp2
      go_loopw [59] (fun i wr => ∃ k : Nat, k ≤ l.length ∧ i = .int .i64 k ∧ Two w wr p c q d l.length ((l.drop k).map numV) ((l.drop k).map boxV)) (fun i _ => l.length - (intOf i).toNat)
      case atStart => exact ⟨0, Nat.zero_le _, rfl, HK.out⟩
      case round =>
        clear HK
        obtain ⟨k, hk, rfl, ht⟩ := hrel
        have HK := Hd.mk ht
        clear ht
        by_cases hlt : k < l.length
        · obtain ⟨b, off, rfl, hcell⟩ := (show Nums wr A l from Row.below HA.out HK.out.below).at_ k hlt
          have e0 : l.drop k = l[k] :: l.drop (k + 1) := List.drop_eq_getElem_cons hlt
          rw [e0] at HK
          obtain ⟨x, hx⟩ : ∃ x, x = l[k] := ⟨_, rfl⟩
          rw [← hx] at hcell HK
          clear hx e0
          go_wp2_with fail
          have hy := I.take_some p c l.length (.int .i64 x) ((l.drop (k + 1)).map numV) wr HK.out.fst
          refine hy.mono ?_
          clear hy
          rintro e w4 ⟨rfl, hs⟩
          have K4 : Hd (Two w w4 p c q d l.length ((l.drop (k + 1)).map numV) ((x :: l.drop (k + 1)).map boxV)) := ⟨
            ⟨HK.out.fst.step hs (by simp <;> omega), HK.out.snd.other hs.grown (by simp; exact HX.out.2.2) (by simp; exact HX.out.2.1.symm), hs.under HK.out.below HK.out.below.size hcw⟩⟩
          clear hs
          go_wp2_with fail
          have hy := T.take_some q d l.length x ((l.drop (k + 1)).map boxV) w4 K4.out.snd
          refine hy.mono ?_
          clear hy
          rintro e w5 ⟨rfl, hs⟩
          have K5 : Hd (Two w w5 p c q d l.length ((l.drop (k + 1)).map numV) ((l.drop (k + 1)).map boxV)) := ⟨
            ⟨K4.out.fst.other hs.grown (by simp; exact HX.out.1) (by simp; exact HX.out.2.1), K4.out.snd.step hs (by simp <;> omega), hs.under K4.out.below K4.out.below.size hdw⟩⟩
          clear hs
          go_wp2
          go_roundw
          case rel => exact ⟨k + 1, by omega, by go_num, K5.out.alloc _⟩
          case measure => simp [intOf]; omega
        · obtain rfl : k = l.length := by omega
          rw [List.drop_length] at HK
          go_wp2_with fail
          have hy := I.take_none p c l.length wr HK.out.fst
          refine hy.mono ?_
          clear hy
          rintro e w4 ⟨rfl, rfl⟩
          go_wp2_with fail
          have hy := T.len_any q d l.length [] wr HK.out.snd
          refine hy.mono ?_
          clear hy
          rintro e w4 ⟨rfl, rfl⟩
          go_wp2
          go_ret
          exact ⟨rfl, HK.out.below⟩
end Go.Proofs.Ytdehkpdimghilaa
