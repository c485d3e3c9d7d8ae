/- The walk of CrcSums. -/
import Derived.Test.YtklpodfgncabpaaRef
namespace Go.Proofs.Ytklpodfgncabpaa
open Go.RowKit

theorem info5 : (Try.prog.info? 5).map (fun i => (i.zero, i.size, i.bytes)) = some (some (.int .u8 0), 1, 1) := by kernel_rfl

theorem crcSums_big (A B C : Option Addr) (a b c : Nat) (ca cb cc : Nat) (w : World) (h : 3000 < a ∨ 3000 < b ∨ 3000 < c) (ha : a ≤ maxLen) (hb : b ≤ maxLen) (hc : c ≤ maxLen) :
    Calls Try.prog 3 #[.slice A a ca, .slice B b cb, .slice C c cc] w fun e w' => e = .returned (.bool true) ∧ Below w.heap.size w w' := by
  unfold maxLen at ha hb hc
  by_cases h1 : 3000 < a
  · go_enter Try.func3, Try.ntmps3
    go_wp2_with (go_at_call 7; refine (awake _).mono ?_; rintro e w' ⟨rfl, hb⟩)
    go_ret
    exact ⟨rfl, hb⟩
  by_cases h2 : 3000 < b
  · go_enter Try.func3, Try.ntmps3
    go_wp2_with (go_at_call 7; refine (awake _).mono ?_; rintro e w' ⟨rfl, hb⟩)
    go_ret
    exact ⟨rfl, hb⟩
  · have h3 : 3000 < c := by omega
    go_enter Try.func3, Try.ntmps3
    go_wp2_with (go_at_call 7; refine (awake _).mono ?_; rintro e w' ⟨rfl, hb⟩)
    go_ret
    exact ⟨rfl, hb⟩

theorem parts_below {w w' : World} {A : Option Addr} {ps : List Part} (h : Parts w A ps) (hb : Below w.heap.size w w') : Parts w' A ps :=
  ⟨h.1.below hb, fun p hp => ⟨(h.2 p hp).1.below hb, (h.2 p hp).2⟩⟩
/-- A new block of slices. -/
theorem parts_new {w : World} (ps : List Part) (t : TypeId) (h : ∀ p ∈ ps, Bytes w p.a p.l ∧ p.l.length ≤ 9223372036854775807) :
    Parts (w.alloc (.cells (ps.map Part.v).toArray t)) (some ⟨w.heap.size, 0, none⟩) ps :=
  ⟨row_new _ _ _ _, fun p hp => ⟨(h p hp).1.below ((Below.refl _ _).alloc (Nat.le_refl _) _), (h p hp).2⟩⟩

set_option maxHeartbeats 400000 in
theorem crcSums (A B C : Option Addr) (a b c : List UInt8) (ca cb cc : Nat) (w : World) (ha : Bytes w A a) (hb : Bytes w B b) (hc : Bytes w C c) (la : a.length ≤ 3000) (lb : b.length ≤ 3000) (lc : c.length ≤ 3000) :
    Calls Try.prog 3 #[.slice A a.length ca, .slice B b.length cb, .slice C c.length cc] w fun e w' => e = .returned (.bool true) ∧ Below w.heap.size w w' := by
  obtain ⟨i0, hi, hz0, hz1, hz2⟩ := info_parts info5
  have HI := Hd.mk (And.intro hi (And.intro hz0 (And.intro hz1 hz2)))
  have HA := Hd.mk ha
  have HB := Hd.mk hb
  have HC := Hd.mk hc
  clear ha hb hc hi hz0 hz1 hz2
  go_enter Try.func3, Try.ntmps3
  go_wp2_with fail
  refine (awake _).mono ?_
  rintro e w1 ⟨rfl, hb1⟩
  have HW1 := Hd.mk hb1
  clear hb1
  go_wp2_with fail
  refine (sum_any _ _ [⟨A, ca, a⟩, ⟨B, cb, b⟩, ⟨C, cc, c⟩] _ (parts_new _ _ ?_) (by simp)).mono ?_
  · intro p hp
    have hb1 := HW1.out
    simp only [List.mem_cons, List.not_mem_nil, or_false] at hp
    rcases hp with rfl | rfl | rfl
    · exact ⟨HA.out.below hb1, by simp only; omega⟩
    · exact ⟨HB.out.below hb1, by simp only; omega⟩
    · exact ⟨HC.out.below hb1, by simp only; omega⟩
  rintro e w2 ⟨rfl, hw2⟩
  have hb2 : Below w.heap.size w w2 := by
    rw [← hw2]
    exact HW1.out.alloc HW1.out.size _
  clear hw2
  obtain ⟨S, hS⟩ : ∃ S, S = csum (([⟨A, ca, a⟩, ⟨B, cb, b⟩, ⟨C, cc, c⟩] : List Part).map Part.l).flatten := ⟨_, rfl⟩
  rw [← hS]
  have HS := Hd.mk hS
  have HW2 := Hd.mk hb2
  clear hS hb2
  obtain ⟨hi, hz0, hz1, hz2⟩ := HI.out
  have hz2' := World.ownsRow_lit (base := w.heap.size) (e := 5) (size := 1) w2 #[] 0 HW2.out.size (by decide) rfl
  have HO := Hd.mk hz2'
  have HI0 := Hd.mk hi
  have HZ0 := Hd.mk hz0
  have HZ1 := Hd.mk hz1
  have HZ2 := Hd.mk hz2
  clear hz2' hi hz0 hz1 hz2 HI
  go_wp2_with (first
    | (at_builtin; refine wpList_append_row rfl (.tmp 27) (.tmp 28) 22 rfl w.heap.size 5 i0 (.int .u8 0) 1 Try.underlying22 HI0.out HZ0.out HZ1.out HZ2.out rfl _ 0 [] rfl HO.out A a.length ca (a.map byteV) rfl (by simp) (HA.out.below (HW2.out.alloc HW2.out.size _)) byte_one ?x1 ?x2 ?x3 ?x4))
  case x1 => omega
  case x2 => unfold maxLen; omega
  case x3 => have := HW2.out.size; simp; omega
  case x4 =>
    intro v3 w3 ho3 hg3
    have hb3 : Below w.heap.size w w3 := below_own (HW2.out.alloc HW2.out.size _) (by have := HW2.out.size; simp; omega) HO.out hg3
    have HW3 := Hd.mk hb3
    have HO3 := Hd.mk ho3
    clear hb3 ho3 hg3
    obtain ⟨n3, hn3⟩ : ∃ n3, n3 = a.length := ⟨_, rfl⟩
    rw [← hn3] at HO3
    have l3 : n3 ≤ 3000 := by omega
    have HN3 := Hd.mk hn3
    clear hn3
    go_wp2_with (first
      | (at_builtin; refine wpList_append_row rfl (.tmp 29) (.tmp 30) 22 rfl w.heap.size 5 i0 (.int .u8 0) 1 Try.underlying22 HI0.out HZ0.out HZ1.out HZ2.out rfl v3 n3 (a.map byteV) rfl HO3.out B b.length cb (b.map byteV) rfl (by simp) (HB.out.below HW3.out) byte_one ?y1 ?y2 HW3.out.size ?y4))
    case y1 => omega
    case y2 => unfold maxLen; omega
    case y4 =>
      intro v4 w4 ho4 hg4
      have hb4 : Below w.heap.size w w4 := below_own HW3.out HW3.out.size HO3.out hg4
      have HW4 := Hd.mk hb4
      have HO4 := Hd.mk ho4
      clear hb4 ho4 hg4
      go_wp2_with (first
        | (at_builtin; refine wpList_append_row rfl (.tmp 31) (.tmp 32) 22 rfl w.heap.size 5 i0 (.int .u8 0) 1 Try.underlying22 HI0.out HZ0.out HZ1.out HZ2.out rfl v4 (n3 + b.length) (a.map byteV ++ b.map byteV) rfl HO4.out C c.length cc (c.map byteV) rfl (by simp) (HC.out.below HW4.out) byte_one ?z1 ?z2 HW4.out.size ?z4))
      case z1 => omega
      case z2 => unfold maxLen; omega
      case z4 =>
        intro v5 w5 ho5 hg5
        have hb5 : Below w.heap.size w w5 := below_own HW4.out HW4.out.size HO4.out hg5
        have HW5 := Hd.mk hb5
        rw [← List.map_append, ← List.map_append] at ho5
        obtain ⟨A5, c5, rfl, hr5, hl5, -, -, hm5⟩ := own_row ho5
        obtain ⟨L, hL⟩ : ∃ L, L = a ++ (b ++ c) := ⟨_, rfl⟩
        rw [← hL] at hr5 hl5
        rw [List.length_map] at hl5
        rw [← hl5]
        have hm : L.length ≤ 9223372036854775807 := by rw [hl5]; unfold maxLen at hm5; exact hm5
        have HR := Hd.mk hr5
        have HL := Hd.mk hL
        clear hb5 ho5 hg5 hr5 hl5 hL hm5
        go_wp2_with fail
        refine (ref_any A5 c5 L w5 HR.out hm).mono ?_
        rintro e w6 ⟨rfl, rfl⟩
        rw [show csum L = S from by rw [HL.out, HS.out]; simp]
        go_wp2_with fail
        go_ret
        exact ⟨by simp, HW5.out⟩
end Go.Proofs.Ytklpodfgncabpaa
