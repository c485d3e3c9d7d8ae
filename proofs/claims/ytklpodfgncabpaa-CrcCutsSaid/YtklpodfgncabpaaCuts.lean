/- The walk of CrcCuts. -/
import Derived.Test.YtklpodfgncabpaaSums
namespace Go.Proofs.Ytklpodfgncabpaa
open Go.RowKit
set_option linter.unusedSimpArgs false
set_option linter.unusedVariables false

theorem info22 : (Try.prog.info? 22).map (fun i => (i.zero, i.size, i.bytes)) = some (some (.slice none 0 0), 1, 24) := by kernel_rfl
theorem min2 (a b n : Nat) (hn : n = min a b) (ts : Array TypeId) (t : TypeId) (w : World) :
    (Builtin.min_ ts t #[.int .i64 (a : Int), .int .i64 (b : Int)]).run Try.prog w = .ok (.int .i64 (n : Int)) w := by
  rw [run_min_int2]
  congr 2
  subst hn
  split <;> omega

theorem crcCuts_big (A B : Option Addr) (a b : Nat) (ca cb : Nat) (w : World) (h : 3000 < a ∨ 50 < b) (ha : a ≤ maxLen) (hb : b ≤ maxLen) :
    Calls Try.prog 4 #[.slice A a ca, .slice B b cb] w fun e w' => e = .returned (.bool true) ∧ Below w.heap.size w w' := by
  unfold maxLen at ha hb
  by_cases h1 : 3000 < a
  · go_enter Try.func4, Try.ntmps4
    go_wp2_with (go_at_call 7; refine (awake _).mono ?_; rintro e w' ⟨rfl, hb⟩)
    go_ret
    exact ⟨rfl, hb⟩
  · have h2 : 50 < b := by omega
    go_enter Try.func4, Try.ntmps4
    go_wp2_with (go_at_call 7; refine (awake _).mono ?_; rintro e w' ⟨rfl, hb⟩)
    go_ret
    exact ⟨rfl, hb⟩

/-- What the loop over the cuts has made so far. -/
structure CutState (w : World) (b : List UInt8) (k : Nat) (v rest : Value) (wr : World) (ps : List Part) (A : Option Addr) (c : Nat) (r : List UInt8) : Prop where
  own : wr.ownsRow w.heap.size 22 1 v k (ps.map Part.v)
  rest : rest = .slice A r.length c
  all : (ps.map Part.l).flatten ++ r = b
  parts : ∀ p ∈ ps, Bytes w p.a p.l ∧ p.l.length ≤ 9223372036854775807
  bytes : Bytes w A r
  cap : r.length ≤ c
  below : Below w.heap.size w wr

theorem cut_step {w wr w' : World} {b : List UInt8} {k n : Nat} {v v' : Value} {ps : List Part} {A A' : Option Addr} {c c' : Nat} {r : List UInt8} (hs : CutState w b k v (.slice A r.length c) wr ps A c r) (hn : n ≤ r.length) (hr : r.length ≤ 3000)
    (ho : w'.ownsRow w.heap.size 22 1 v' (k + 1) (ps.map Part.v ++ [.slice A n c])) (hb : Below w.heap.size w w') (hA : Bytes w A' (r.drop n)) (hc : r.length - n ≤ c') (m : Nat) (hm : m = r.length - n) :
    ∃ ps A'' c'' r', CutState w b (k + 1) v' (.slice A' m c') w' ps A'' c'' r' := by
  subst hm
  refine ⟨ps ++ [⟨A, c, r.take n⟩], A', c', r.drop n, ?_, by simp, ?_, ?_, hA, by simp only [List.length_drop]; exact hc, hb⟩
  · simpa [Part.v, hn] using ho
  · rw [← hs.all]
    simp
  · intro p hp
    rcases List.mem_append.1 hp with h | h
    · exact hs.parts p h
    · simp only [List.mem_singleton] at h
      subst h
      exact ⟨Bytes.take hs.bytes n, by simp; omega⟩

set_option maxHeartbeats 800000 in
theorem crcCuts (A B : Option Addr) (a b : List UInt8) (ca cb : Nat) (w : World) (ha : Bytes w A a) (hb : Bytes w B b) (la : a.length ≤ 3000) (lb : b.length ≤ 50) (hca : a.length ≤ ca) :
    Calls Try.prog 4 #[.slice A a.length ca, .slice B b.length cb] w fun e w' => e = .returned (.bool true) ∧ Below w.heap.size w w' := by
  obtain ⟨i0, hi, hz0, hz1, hz2⟩ := info_parts info22
  have HI0 := Hd.mk hi
  have HZ0 := Hd.mk hz0
  have HZ1 := Hd.mk hz1
  have HZ2 := Hd.mk hz2
  have HA := Hd.mk ha
  have HB := Hd.mk hb
  clear ha hb hi hz0 hz1 hz2
  go_enter Try.func4, Try.ntmps4
  go_wp2_with fail
  refine (awake _).mono ?_
  rintro e w1 ⟨rfl, hb1⟩
  have HW1 := Hd.mk hb1
  clear hb1
  go_wp2_with fail
  go_loopw [5, 6, 23] (fun v rest i wr => ∃ k : Nat, k ≤ b.length ∧ i = .int .i64 k ∧ ∃ ps A' c' r, CutState w a k v rest wr ps A' c' r) (fun _ _ i _ => b.length - (intOf i).toNat)
  case atStart => exact ⟨0, Nat.zero_le _, rfl, [], A, ca, a, ⟨⟨by simp, .inl ⟨rfl, rfl⟩⟩, rfl, rfl, (fun p hp => by cases hp), HA.out, hca, HW1.out⟩⟩
  case round =>
    obtain ⟨k, hk, rfl, ps, A', c', r, hst⟩ := hrel
    obtain rfl := hst.rest
    have HS := Hd.mk hst
    have hrl : r.length ≤ 3000 := by have := congrArg List.length hst.all; simp at this; omega
    have hcap := hst.cap
    clear hst
    by_cases hlt : k < b.length
    · obtain ⟨b2, o2, rfl, hc2⟩ := (Bytes.below HB.out HS.out.below).at_ k hlt
      obtain ⟨d, hd⟩ : ∃ d, d = b[k].toNat := ⟨_, rfl⟩
      rw [← hd] at hc2
      have hdl : d < 256 := by rw [hd]; exact b[k].toNat_lt
      clear hd
      obtain ⟨n, hn⟩ : ∃ n, n = min d r.length := ⟨_, rfl⟩
      have hmin := min2 d r.length n hn
      have hnl : n ≤ r.length := by omega
      clear hn
      go_wp2_with (first
        | (at_builtin; refine wpList_append_row rfl (.tmp 32) (.tmp 36) 28 rfl w.heap.size 22 i0 (.slice none 0 0) 24 Try.underlying28 HI0.out HZ0.out HZ1.out HZ2.out rfl _ k (ps.map Part.v) rfl (HS.out.own.alloc _) (some ⟨wr.heap.size, 0, none⟩) 1 1 [.slice A' n c'] rfl rfl (row_new _ _ _ _) ?x0 ?x1 ?x2 ?x3 ?x4))
      case x0 => intro u hu; simp at hu; subst hu; rfl
      case x1 => omega
      case x2 => unfold maxLen; omega
      case x3 => have := HS.out.below.size; simp; omega
      case x4 =>
        intro v' w' ho hg
        have hbl : Below w.heap.size w w' := below_own (HS.out.below.alloc HS.out.below.size _) (by have := HS.out.below.size; simp; omega) (HS.out.own.alloc _) hg
        have HO := Hd.mk ho
        have HBl := Hd.mk hbl
        clear ho hbl hg hmin
        by_cases hnc : n = c'
        · obtain rfl : r.length = n := by omega
          go_wp2
          go_roundw
          case rel => exact ⟨k + 1, by omega, by go_num, cut_step HS.out (Nat.le_refl _) hrl HO.out HBl.out (by rw [List.drop_length]; exact Bytes.nil _ _) (by omega) 0 (by omega)⟩
          case measure => simp [intOf]; omega
        · cases A' with
          | none => 
            go_wp2
            go_roundw
            case rel =>
              refine ⟨k + 1, by omega, by go_num, cut_step HS.out hnl hrl HO.out HBl.out ?_ (by omega) _ rfl⟩
              have hr0 : r = [] := by
                rcases Nat.eq_zero_or_pos r.length with h0 | h0
                · exact List.eq_nil_of_length_eq_zero h0
                · obtain ⟨_, _, e, _⟩ := HS.out.bytes.at_ 0 h0
                  cases e
              rw [hr0, List.drop_nil]
              exact Bytes.nil _ _
            case measure => simp [intOf]; omega
          | some ad =>
            go_wp2
            go_roundw
            case rel => exact ⟨k + 1, by omega, by go_num, cut_step HS.out hnl hrl HO.out HBl.out (Bytes.drop HS.out.bytes n) (by omega) _ rfl⟩
            case measure => simp [intOf]; omega
    · obtain rfl : k = b.length := by omega
      go_wp2_with (first
        | (at_builtin; refine wpList_append_row rfl (.tmp 42) (.tmp 44) 28 rfl w.heap.size 22 i0 (.slice none 0 0) 24 Try.underlying28 HI0.out HZ0.out HZ1.out HZ2.out rfl _ b.length (ps.map Part.v) rfl (HS.out.own.alloc _) (some ⟨wr.heap.size, 0, none⟩) 1 1 [.slice A' r.length c'] rfl rfl (row_new _ _ _ _) ?y0 ?y1 ?y2 ?y3 ?y4))
      case y0 => intro u hu; simp at hu; subst hu; rfl
      case y1 => omega
      case y2 => unfold maxLen; omega
      case y3 => have := HS.out.below.size; simp; omega
      case y4 =>
        intro v' w' ho hg
        have hbl : Below w.heap.size w w' := below_own (HS.out.below.alloc HS.out.below.size _) (by have := HS.out.below.size; simp; omega) (HS.out.own.alloc _) hg
        obtain ⟨X, cx, rfl, hrow, hlen, -, -, hmx⟩ := own_row ho
        have hps : ps.length = b.length := by simpa using hlen
        have HR := Hd.mk hrow
        have HBl := Hd.mk hbl
        have HPS := Hd.mk hps
        clear ho hbl hg hrow hlen hps hmx
        have hP : Parts w' X (ps ++ [⟨A', c', r⟩]) := by
          refine ⟨by simpa [Part.v] using HR.out, ?_⟩
          intro p hp
          rcases List.mem_append.1 hp with h | h
          · exact ⟨(HS.out.parts p h).1.below HBl.out, (HS.out.parts p h).2⟩
          · simp only [List.mem_singleton] at h
            subst h
            exact ⟨HS.out.bytes.below HBl.out, by simp only; omega⟩
        have hlen : b.length + 1 = (ps ++ [(⟨A', c', r⟩ : Part)]).length := by simp [HPS.out]
        have HP2 : Hd (Parts (w'.alloc (.cells #[.slice A a.length ca] 22)) (some ⟨w'.heap.size, 0, none⟩) [⟨A, ca, a⟩]) := ⟨parts_new [⟨A, ca, a⟩] 22 (by
          intro p hp
          simp only [List.mem_singleton] at hp
          subst hp
          exact ⟨HA.out.below HBl.out, by simp only; omega⟩)⟩
        have HP := Hd.mk hP
        have hle : (ps ++ [(⟨A', c', r⟩ : Part)]).length ≤ 9223372036854775807 := by simp only [List.length_append, List.length_singleton]; have := HPS.out; omega
        have HLen := Hd.mk hlen
        clear hP hlen
        go_wp2_with fail
        rw [HLen.out]
        have hx := sum_any X cx (ps ++ [⟨A', c', r⟩]) w' HP.out hle
        refine hx.mono ?_
        clear hx
        rintro e w2 ⟨rfl, rfl⟩
        obtain ⟨S, hS⟩ : ∃ S, S = csum ((ps ++ [(⟨A', c', r⟩ : Part)]).map Part.l).flatten := ⟨_, rfl⟩
        rw [← hS]
        have hSa : S = csum a := by
          rw [hS, ← HS.out.all]
          simp
        clear hS
        subst hSa
        go_wp2_with fail
        have hx := sum_any (some ⟨w'.heap.size, 0, none⟩) 1 [⟨A, ca, a⟩] (w'.alloc (.cells #[.slice A a.length ca] 22)) HP2.out (by simp)
        refine hx.mono ?_
        clear hx
        rintro e w3 ⟨rfl, rfl⟩
        have e1 : csum (([⟨A, ca, a⟩] : List Part).map Part.l).flatten = csum a := by simp
        rw [e1]
        clear e1
        go_wp2
        go_ret
        exact ⟨by simp, HBl.out.alloc HBl.out.size _⟩
end Go.Proofs.Ytklpodfgncabpaa
