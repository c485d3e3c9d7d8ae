/- The walk of PostPlays. -/
import Derived.Test.YtdehkpdimghilaaSame
import Derived.Test.YtdehkpdimghilaaRelyTail
import Derived.Test.YtdehkpdimghilaaAppendEmpty
namespace Go.Proofs.Ytdehkpdimghilaa
open Go.RowKit
set_option linter.unusedSimpArgs false
set_option linter.unusedVariables false

/-- One act of a play. -/
structure Move where
  k : Nat
  p : Part
def Move.cells (m : Move) : List Value := [.int .u8 m.k, m.p.v]
/-- The acts that came in. -/
structure Moves (w : World) (A : Option Addr) (ms : List Move) : Prop where
  row : Row w A (ms.flatMap Move.cells)
  kind : ∀ m ∈ ms, m.k < 256
  said : Said w (ms.map Move.p)
theorem flat_two : ∀ (ms : List Move) (j : Nat) (h : j < ms.length), (ms.flatMap Move.cells)[2 * j]? = some (.int .u8 ms[j].k) ∧ (ms.flatMap Move.cells)[2 * j + 1]? = some ms[j].p.v
  | [], j, h => absurd h (by simp)
  | m :: ms, 0, h => by simp [Move.cells]
  | m :: ms, j + 1, h => by
    have := flat_two ms j (by simpa using h)
    simpa [Move.cells, show 2 * (j + 1) = 2 * j + 2 from by omega, show 2 * j + 2 + 1 = 2 * j + 1 + 2 from by omega] using this
theorem Moves.at_ {w : World} {A : Option Addr} {ms : List Move} (h : Moves w A ms) (j : Nat) (hj : j < ms.length) :
    ∃ b off, A = some ⟨b, off, none⟩ ∧ w.cell? ⟨b, off + j * 2, none⟩ = some (.int .u8 ms[j].k) ∧ w.cell? ⟨b, off + j * 2 + 1, none⟩ = some ms[j].p.v := by
  obtain ⟨e1, e2⟩ := flat_two ms j hj
  obtain ⟨h1, e1⟩ := List.getElem?_eq_some_iff.1 e1
  obtain ⟨h2, e2⟩ := List.getElem?_eq_some_iff.1 e2
  obtain ⟨b, off, e, hc⟩ := h.row _ h1
  obtain ⟨b', off', e', hc'⟩ := h.row _ h2
  rw [e] at e'
  simp only [Option.some.injEq, Addr.mk.injEq, and_true] at e'
  obtain ⟨rfl, rfl⟩ := e'
  exact ⟨b, off, e, by rw [Nat.mul_comm j 2, hc, e1], by rw [Nat.mul_comm j 2, Nat.add_assoc, hc', e2]⟩
theorem Said.below {w w' : World} {ps : List Part} (h : Said w ps) (hb : Below w.heap.size w w') : Said w' ps := fun p hp => ⟨(h p hp).1.below hb, (h p hp).2⟩
theorem Moves.below {w w' : World} {A : Option Addr} {ms : List Move} (h : Moves w A ms) (hb : Below w.heap.size w w') : Moves w' A ms := ⟨h.row.below hb, h.kind, h.said.below hb⟩

/-- Where a play stands: the box, and the row beside it. -/
structure Stand (w wr : World) (p c room : Nat) (R : Option Addr) (cr : Nat) (bs ps : List Part) : Prop where
  box : BoxAt wr p c 67 room (bs.map Part.v)
  fits : bs.length ≤ room
  row : Row wr R (ps.map Part.v)
  cap : ps.length ≤ cr
  capm : cr ≤ maxLen
  ne : ∀ a, R = some a → a.block ≠ c
  said : Said w ps
  below : Below w.heap.size w wr

section
variable {w wr w' : World} {p c room : Nat} {R : Option Addr} {cr : Nat} {bs ps : List Part}
theorem Stand.old (h : Stand w wr p c room R cr bs ps) (hb : Below wr.heap.size wr w') : Stand w w' p c room R cr bs ps :=
  { box := h.box.below hb, fits := h.fits, row := h.row.below hb, cap := h.cap, capm := h.capm, ne := h.ne, said := h.said, below := h.below.trans (hb.mono h.below.size) }
theorem Stand.act {bs' : List Part} (h : Stand w wr p c room R cr bs ps) (hs : Go.Proofs.Ytdehkpdimghilaa.Step wr w' c room (bs'.map Part.v)) (hl : bs'.length ≤ room) (hc : w.heap.size ≤ c) : Stand w w' p c room R cr bs' ps :=
  { box := h.box.step hs (by simpa using hl), fits := hl, row := h.row.grown hs.grown (fun a e => by simpa using h.ne a e), cap := h.cap, capm := h.capm, ne := h.ne, said := h.said, below := hs.under h.below h.below.size hc }
theorem Stand.rerow {w4 w5 : World} {v v' : Value} {n m : Nat} {xs ys : List Value} {qs : List Part} (h : Stand w wr p c room R cr bs ps) (hb : Below wr.heap.size wr w4) (hv : w4.ownsRow wr.heap.size 28 1 v n xs) (hg : w4.grownBy w5 v.ownBlock)
    (hown : w5.ownsRow wr.heap.size 28 1 v' m ys) (hm : m = qs.length) (hys : ys = qs.map Part.v) (hsd : Said w qs) : ∃ R' cr', v' = .slice R' qs.length cr' ∧ Stand w w5 p c room R' cr' bs qs := by
  subst hm
  subst hys
  have hb5 : Below wr.heap.size wr w5 := below_own hb hb.size hv hg
  rcases hown.2 with ⟨rfl, h0⟩ | ⟨g, cap, cur, rfl, hbg, hh, hn, hmx, _⟩
  · obtain rfl : qs = [] := List.eq_nil_of_length_eq_zero h0
    exact ⟨none, 0, rfl, { box := h.box.below hb5, fits := h.fits, row := Row.nil _ _, cap := Nat.le_refl _, capm := Nat.zero_le _, ne := (fun a e => nomatch e), said := hsd, below := h.below.trans (hb5.mono h.below.size) }⟩
  · obtain ⟨A, c', e, hr, _⟩ := own_row hown
    simp only [Value.slice.injEq] at e
    obtain ⟨rfl, _, rfl⟩ := e
    refine ⟨_, _, rfl, { box := h.box.below hb5, fits := h.fits, row := hr, cap := hn, capm := hmx, ne := ?_, said := hsd, below := h.below.trans (hb5.mono h.below.size) }⟩
    intro a e
    cases e
    have := h.box.chan.lt
    show g ≠ c
    omega
theorem Stand.tl {rb ro : Nat} {p0 : Part} (h : Stand w wr p c room (some ⟨rb, ro, none⟩) cr bs (p0 :: ps)) : Stand w wr p c room (some ⟨rb, ro + 1, none⟩) (cr - 1) bs ps := by
  have h1 := h.cap
  have h2 := h.capm
  have h3 := Row.drop h.row 1
  simp only [List.length_cons] at h1
  exact { box := h.box, fits := h.fits, row := by simpa using h3, cap := by omega, capm := by omega, ne := (fun a e => by cases e; exact h.ne ⟨rb, ro, none⟩ rfl), said := (fun x hx => h.said x (List.mem_cons_of_mem _ hx)), below := h.below }
theorem own_below {w1 w2 : World} {base n : Nat} {e : TypeId} {v : Value} {xs : List Value} (h : w1.ownsRow base e 1 v n xs) (hb : Below w1.heap.size w1 w2) : w2.ownsRow base e 1 v n xs :=
  h.kept (row := none) (grownBy_below hb) (by cases v.ownBlock <;> simp)
end
theorem below_drewN (w : World) (n : Nat) : Below w.heap.size w (w.drewN n) := ⟨rfl, rfl, rfl, Nat.le_refl _, fun _ _ => rfl⟩
theorem part_one (ps : List Part) : ∀ u ∈ ps.map Part.v, u.oneCell' = true := by
  intro u hu
  obtain ⟨p, _, rfl⟩ := List.mem_map.1 hu
  rfl
theorem infoS : (Try.prog.info? 28).map (fun i => (i.zero, i.size, i.bytes)) = some (some (.slice none 0 0), 1, 24) := by kernel_rfl

set_option maxRecDepth 100000 in
set_option maxHeartbeats 6400000 in
theorem postPlays (A : Option Addr) (ca : Nat) (room : Int) (ms : List Move) (w : World) (ha : Moves w A ms) (hl : ms.length ≤ 9223372036854775807) :
    Calls Try.prog 3 #[.int .i64 room, .slice A ms.length ca] w fun e w' => e = .returned (.bool true) ∧ Below w.heap.size w w' := by
  have HA := Hd.mk ha
  clear ha
  obtain ⟨i0, hi, hz0, hz1, hz2⟩ := info_parts infoS
  have HI := Hd.mk hi
  have HZ0 := Hd.mk hz0
  have HZ1 := Hd.mk hz1
  have HZ2 := Hd.mk hz2
  clear hi hz0 hz1 hz2
  go_enter Try.func3, Try.ntmps3
  go_wp2_with fail
  refine (awake _).mono ?_
  rintro e w1 ⟨rfl, hb⟩
  have L1 := Hd.mk hb
  clear hb
  go_wp2_with fail
  by_cases hroom : room < 1 ∨ 256 < room
  · have hy := B.new_bad room w1 hroom
    refine hy.mono ?_
    clear hy
    rintro e w' ⟨rfl, rfl⟩
    by_cases h1 : room < 1
    · go_wp2
      go_ret
      exact ⟨rfl, L1.out⟩
    · have h2 : 256 < room := by omega
      clear hroom
      go_wp2
      go_ret
      exact ⟨rfl, L1.out⟩
  · have h1 : ¬ room < 1 := fun h => hroom (.inl h)
    have h2 : ¬ 256 < room := fun h => hroom (.inr h)
    clear hroom
    obtain ⟨r, rfl⟩ : ∃ r : Nat, room = r := ⟨room.toNat, by omega⟩
    have hy := B.new_ok r w1 (by omega) (by omega)
    refine hy.mono ?_
    clear hy
    rintro e w2 ⟨p, c, rfl, hbx, hbl, hp, hc⟩
    have K0 : Hd (Stand w w2 p c r none 0 [] []) := ⟨{ box := hbx, fits := Nat.zero_le _, row := Row.nil _ _, cap := Nat.le_refl _, capm := Nat.zero_le _, ne := (fun a h => nomatch h), said := (fun p hp => absurd hp (by simp)), below := L1.out.trans (hbl.mono L1.out.size) }⟩
    have hpw : w.heap.size ≤ p := Nat.le_trans L1.out.size hp
    have hcw : w.heap.size ≤ c := Nat.le_trans L1.out.size hc
    have hr1 : 1 ≤ r := by omega
    have hr2 : r ≤ 256 := by omega
    clear hbx hbl hp hc L1
    go_wp2
    go_loopw [7, 35] (fun row i wz => ∃ (k : Nat) (R : Option Addr) (cr : Nat) (ps : List Part), k ≤ ms.length ∧ i = .int .i64 k ∧ row = .slice R ps.length cr ∧ Stand w wz p c r R cr ps ps) (fun _ i _ => ms.length - (intOf i).toNat)
    case atStart => exact ⟨0, none, 0, [], Nat.zero_le _, rfl, rfl, K0.out⟩
    case round =>
      obtain ⟨k, R, cr, ps, hk, rfl, rfl, ht2⟩ := hrel
      have HK := Hd.mk ht2
      clear ht2
      by_cases hlt : k < ms.length
      · obtain ⟨b, off, rfl, hc1, hc2⟩ := (HA.out.below HK.out.below).at_ k hlt
        have hkd := HA.out.kind _ (List.getElem_mem hlt)
        have hsd := (HA.out.said _ (List.mem_map.2 ⟨_, List.getElem_mem hlt, rfl⟩))
        obtain ⟨q, P0, hq⟩ : ∃ q P, ms[k] = ⟨q, P⟩ := ⟨_, _, rfl⟩
        rw [hq] at hc1 hc2 hkd hsd
        simp only at hc1 hc2 hkd hsd
        have HS : Hd (Said w [P0]) := ⟨fun x hx => by
          obtain rfl := List.mem_singleton.1 hx
          exact hsd⟩
        clear hsd hq
        obtain ⟨a, cq, l⟩ := P0
        obtain ⟨P0, hP0⟩ : ∃ P, P = Part.mk a cq l := ⟨_, rfl⟩
        rw [← hP0] at HS
        have HP := Hd.mk hP0
        have hv0 : Part.v ⟨a, cq, l⟩ = .slice a l.length cq := rfl
        rw [hv0] at hc2
        clear hP0 hv0
        by_cases h300 : 300 < k
        · go_wp2
          go_ret
          exact ⟨rfl, (HK.out.old ((Below.refl _ _).alloc (Nat.le_refl _) _)).below⟩
        · obtain ⟨d, hd⟩ : ∃ d, d = q % 6 := ⟨_, rfl⟩
          have hm : (q : Int).tmod 6 = (d : Int) := by rw [hd, Int.tmod_eq_emod_of_nonneg (by omega)]; omega
          have hw6 : IntKind.u8.wrap (d : Int) = (d : Int) := by simp [IntKind.wrap, IntKind.bits, IntKind.signed]; omega
          clear hd
          have hsz := HK.out.fits
          have K1 : Hd (Stand w (wr.alloc (.cells #[.int .u8 q, .slice a l.length cq] 31)) p c r R cr ps ps) := ⟨HK.out.old ((Below.refl _ _).alloc (Nat.le_refl _) _)⟩
          by_cases h3 : d = 3
          · subst h3
            cases ps with
            | nil =>
              go_wp2_with fail
              have hy := B.take_none p c r _ K1.out.box
              refine hy.mono ?_
              clear hy
              rintro e y0 ⟨rfl, rfl⟩
              go_wp2
              go_quiet (fail)
              have K2 : Hd (Stand w ((wr.alloc (.cells #[.int .u8 q, .slice a l.length cq] 31)).drewN nq) p c r R cr [] []) := ⟨K1.out.old (below_drewN _ _)⟩
              generalize (wr.alloc (.cells #[.int .u8 q, .slice a l.length cq] 31)).drewN nq = y6 at K2
              go_wp2_with fail
              have hy := B.len_any p c r (([] : List Part).map Part.v) _ K2.out.box
              rw [List.length_map] at hy
              refine hy.mono ?_
              clear hy
              rintro e y1 ⟨rfl, rfl⟩
              go_wp2_with fail
              have hy := B.all_any p c r (([] : List Part).map Part.v) _ K2.out.box (fun u hu => by
                obtain ⟨P1, _, rfl⟩ := List.mem_map.1 hu
                exact ⟨(P1.a, P1.l.length, P1.c), rfl⟩)
              refine hy.mono ?_
              clear hy
              rintro e y2 ⟨v, rfl, hs, hown⟩
              obtain ⟨A6, c6, rfl, hrow, hlen, _⟩ := own_row hown
              rw [List.length_map]
              rw [List.length_map] at hlen
              have K8 : Hd (Stand w y2 p c r R cr ([] : List Part) ([] : List Part)) := ⟨K2.out.act hs K2.out.fits hcw⟩
              have HR := Hd.mk hrow
              clear hs hown hrow hlen
              go_wp2_with fail
              have hy := same_any A6 R c6 cr ([] : List Part) y2 HR.out K8.out.row (K8.out.said.below K8.out.below) (by have := K8.out.cap; have := K8.out.capm; unfold maxLen at this; omega)
              refine hy.mono ?_
              clear hy
              rintro e y3 ⟨rfl, dd, rfl⟩
              have K9 : Hd (Stand w (y2.drewN dd) p c r R cr ([] : List Part) ([] : List Part)) := ⟨K8.out.old (below_drewN _ _)⟩
              generalize y2.drewN dd = y4 at K9
              go_wp2_with fail
              have hy := B.len_any p c r (([] : List Part).map Part.v) _ K9.out.box
              rw [List.length_map] at hy
              refine hy.mono ?_
              clear hy
              rintro e y5 ⟨rfl, rfl⟩
              go_wp2
              go_roundw
              case rel => exact ⟨k + 1, R, cr, ([] : List Part), by omega, by go_num, rfl, K9.out⟩
              case measure => simp [intOf]; omega
            | cons p0 ps =>
              obtain ⟨rb, ro, rfl, -⟩ := K1.out.row 0 (by simp)
              go_wp2_with fail
              have hy := B.take_some p c r p0.v (ps.map Part.v) _ K1.out.box
              refine hy.mono ?_
              clear hy
              rintro e y0 ⟨rfl, hs⟩
              have K2 : Hd (Stand w y0 p c r (some ⟨rb, ro, none⟩) cr ps (p0 :: ps)) := ⟨K1.out.act hs (by simp at hsz; omega) hcw⟩
              clear hs
              obtain ⟨rb', ro', e, hrc⟩ := K2.out.row 0 (by simp)
              simp only [Option.some.injEq, Addr.mk.injEq, and_true] at e
              obtain ⟨rfl, rfl⟩ := e
              obtain ⟨a0, c0, l0⟩ := p0
              have hsd := (K2.out.said.below K2.out.below) _ (List.mem_cons_self ..)
              have hcv := fun d => conv_bytes (y0.drewN d) a0 l0 c0 (hsd.1.drewN d)
              simp only [List.map_cons, List.getElem_cons_zero, Part.v, Nat.add_zero] at hrc
              rw [show Part.v ⟨a0, c0, l0⟩ = .slice a0 l0.length c0 from rfl]
              have hcap := K2.out.cap
              rw [List.length_cons] at hcap
              rw [List.length_cons]
              clear hsd
              go_wp2
              go_quiet (fail)
              have K3 : Hd (Stand w (y0.drewN nq) p c r (some ⟨rb, ro + 1, none⟩) (cr - 1) ps ps) := ⟨(K2.out.old (below_drewN _ _)).tl⟩
              generalize y0.drewN nq = y6 at K3
              clear hcv hrc K2
              by_cases h1c : cr = 1
              · obtain rfl : ps = [] := List.eq_nil_of_length_eq_zero (by omega)
                subst h1c
                have K4 : Hd (Stand w y6 p c r (some ⟨rb, ro, none⟩) 0 [] []) := ⟨{ box := K3.out.box, fits := K3.out.fits, row := Row.nil _ _, cap := Nat.le_refl _, capm := Nat.zero_le _, ne := (fun a e => by cases e; exact K3.out.ne ⟨rb, ro + 1, none⟩ rfl), said := K3.out.said, below := K3.out.below }⟩
                clear K3 hcap
                go_wp2_with fail
                have hy := B.len_any p c r (([] : List Part).map Part.v) _ K4.out.box
                rw [List.length_map] at hy
                refine hy.mono ?_
                clear hy
                rintro e y1 ⟨rfl, rfl⟩
                go_wp2_with fail
                have hy := B.all_any p c r (([] : List Part).map Part.v) _ K4.out.box (fun u hu => by
                  obtain ⟨P1, _, rfl⟩ := List.mem_map.1 hu
                  exact ⟨(P1.a, P1.l.length, P1.c), rfl⟩)
                refine hy.mono ?_
                clear hy
                rintro e y2 ⟨v, rfl, hs, hown⟩
                obtain ⟨A6, c6, rfl, hrow, hlen, _⟩ := own_row hown
                rw [List.length_map]
                rw [List.length_map] at hlen
                have K8 : Hd (Stand w y2 p c r (some ⟨rb, ro, none⟩) 0 ([] : List Part) ([] : List Part)) := ⟨K4.out.act hs K4.out.fits hcw⟩
                have HR := Hd.mk hrow
                clear hs hown hrow hlen
                go_wp2_with fail
                have hy := same_any A6 (some ⟨rb, ro, none⟩) c6 0 ([] : List Part) y2 HR.out K8.out.row (K8.out.said.below K8.out.below) (by have := K8.out.cap; have := K8.out.capm; unfold maxLen at this; omega)
                refine hy.mono ?_
                clear hy
                rintro e y3 ⟨rfl, dd, rfl⟩
                have K9 : Hd (Stand w (y2.drewN dd) p c r (some ⟨rb, ro, none⟩) 0 ([] : List Part) ([] : List Part)) := ⟨K8.out.old (below_drewN _ _)⟩
                generalize y2.drewN dd = y4 at K9
                go_wp2_with fail
                have hy := B.len_any p c r (([] : List Part).map Part.v) _ K9.out.box
                rw [List.length_map] at hy
                refine hy.mono ?_
                clear hy
                rintro e y5 ⟨rfl, rfl⟩
                go_wp2
                go_roundw
                case rel => exact ⟨k + 1, (some ⟨rb, ro, none⟩), 0, ([] : List Part), by omega, by go_num, rfl, K9.out⟩
                case measure => simp [intOf]; omega
              · skip
                go_wp2_with fail
                have hy := B.len_any p c r (ps.map Part.v) _ K3.out.box
                rw [List.length_map] at hy
                refine hy.mono ?_
                clear hy
                rintro e y1 ⟨rfl, rfl⟩
                go_wp2_with fail
                have hy := B.all_any p c r (ps.map Part.v) _ K3.out.box (fun u hu => by
                  obtain ⟨P1, _, rfl⟩ := List.mem_map.1 hu
                  exact ⟨(P1.a, P1.l.length, P1.c), rfl⟩)
                refine hy.mono ?_
                clear hy
                rintro e y2 ⟨v, rfl, hs, hown⟩
                obtain ⟨A6, c6, rfl, hrow, hlen, _⟩ := own_row hown
                rw [List.length_map]
                rw [List.length_map] at hlen
                have K8 : Hd (Stand w y2 p c r (some ⟨rb, ro + 1, none⟩) (cr - 1) ps ps) := ⟨K3.out.act hs K3.out.fits hcw⟩
                have HR := Hd.mk hrow
                clear hs hown hrow hlen
                go_wp2_with fail
                have hy := same_any A6 (some ⟨rb, ro + 1, none⟩) c6 (cr - 1) ps y2 HR.out K8.out.row (K8.out.said.below K8.out.below) (by have := K8.out.cap; have := K8.out.capm; unfold maxLen at this; omega)
                refine hy.mono ?_
                clear hy
                rintro e y3 ⟨rfl, dd, rfl⟩
                have K9 : Hd (Stand w (y2.drewN dd) p c r (some ⟨rb, ro + 1, none⟩) (cr - 1) ps ps) := ⟨K8.out.old (below_drewN _ _)⟩
                generalize y2.drewN dd = y4 at K9
                go_wp2_with fail
                have hy := B.len_any p c r (ps.map Part.v) _ K9.out.box
                rw [List.length_map] at hy
                refine hy.mono ?_
                clear hy
                rintro e y5 ⟨rfl, rfl⟩
                go_wp2
                go_roundw
                case rel => exact ⟨k + 1, (some ⟨rb, ro + 1, none⟩), (cr - 1), ps, by omega, by go_num, rfl, K9.out⟩
                case measure => simp [intOf]; omega
          · by_cases h4 : d = 4
            · subst h4
              clear h3
              cases ps with
              | nil =>
                go_wp2_with fail
                have hy := B.turn_none p c r _ K1.out.box
                refine hy.mono ?_
                clear hy
                rintro e y0 ⟨rfl, rfl⟩
                go_wp2_with fail
                have hy := B.len_any p c r (([] : List Part).map Part.v) _ K1.out.box
                rw [List.length_map] at hy
                refine hy.mono ?_
                clear hy
                rintro e y1 ⟨rfl, rfl⟩
                go_wp2_with fail
                have hy := B.all_any p c r (([] : List Part).map Part.v) _ K1.out.box (fun u hu => by
                  obtain ⟨P1, _, rfl⟩ := List.mem_map.1 hu
                  exact ⟨(P1.a, P1.l.length, P1.c), rfl⟩)
                refine hy.mono ?_
                clear hy
                rintro e y2 ⟨v, rfl, hs, hown⟩
                obtain ⟨A6, c6, rfl, hrow, hlen, _⟩ := own_row hown
                rw [List.length_map]
                rw [List.length_map] at hlen
                have K8 : Hd (Stand w y2 p c r R cr ([] : List Part) ([] : List Part)) := ⟨K1.out.act hs K1.out.fits hcw⟩
                have HR := Hd.mk hrow
                clear hs hown hrow hlen
                go_wp2_with fail
                have hy := same_any A6 R c6 cr ([] : List Part) y2 HR.out K8.out.row (K8.out.said.below K8.out.below) (by have := K8.out.cap; have := K8.out.capm; unfold maxLen at this; omega)
                refine hy.mono ?_
                clear hy
                rintro e y3 ⟨rfl, dd, rfl⟩
                have K9 : Hd (Stand w (y2.drewN dd) p c r R cr ([] : List Part) ([] : List Part)) := ⟨K8.out.old (below_drewN _ _)⟩
                generalize y2.drewN dd = y4 at K9
                go_wp2_with fail
                have hy := B.len_any p c r (([] : List Part).map Part.v) _ K9.out.box
                rw [List.length_map] at hy
                refine hy.mono ?_
                clear hy
                rintro e y5 ⟨rfl, rfl⟩
                go_wp2
                go_roundw
                case rel => exact ⟨k + 1, R, cr, ([] : List Part), by omega, by go_num, rfl, K9.out⟩
                case measure => simp [intOf]; omega
              | cons p0 ps =>
                obtain ⟨rb, ro, rfl, -⟩ := K1.out.row 0 (by simp)
                go_wp2_with fail
                have hy := B.turn_some p c r p0.v (ps.map Part.v) _ K1.out.box
                refine hy.mono ?_
                clear hy
                rintro e y0 ⟨rfl, hs⟩
                rw [show ps.map Part.v ++ [p0.v] = (ps ++ [p0]).map Part.v from by simp] at hs
                have K2 : Hd (Stand w y0 p c r (some ⟨rb, ro, none⟩) cr (ps ++ [p0]) (p0 :: ps)) := ⟨K1.out.act hs (by simp at hsz ⊢; omega) hcw⟩
                clear hs
                obtain ⟨rb', ro', e, hrc⟩ := K2.out.row 0 (by simp)
                simp only [Option.some.injEq, Addr.mk.injEq, and_true] at e
                obtain ⟨rfl, rfl⟩ := e
                simp only [List.map_cons, List.getElem_cons_zero, Nat.add_zero] at hrc
                have HRC := Hd.mk hrc
                clear hrc
                have hcap := K2.out.cap
                rw [List.length_cons] at hcap hsz
                rw [List.length_cons]
                go_wp2_with fail
                refine wp_region_rely_tail 8 (by kernel_rfl) (by kernel_rfl) (by kernel_rfl) (fun i v w' => match i with
                  | 0 => ∃ B, v = .slice B 0 0 ∧ w'.ownsRow y0.heap.size 28 1 (.slice B 0 0) 0 []
                  | 1 => v = .slice (some ⟨rb, ro, none⟩) (ps.length + 1) cr
                  | 2 => ∃ R1 c1, v = .slice R1 ps.length c1 ∧ Row w' R1 (ps.map Part.v)
                  | 3 => w'.ownsRow y0.heap.size 28 1 v ps.length (ps.map Part.v)
                  | 4 => v = .slice (some ⟨rb, ro, none⟩) (ps.length + 1) cr
                  | 5 => v = .pointer (some ⟨rb, ro, none⟩)
                  | 6 => v = p0.v
                  | _ => ∃ X, v = .slice X 1 1 ∧ Row w' X [p0.v]) (fun w1 w2 => Below w1.heap.size w1 w2) (Below.refl _ _) (fun w1 w2 w3 h1 h2 => h1.trans (h2.mono h1.size)) ?_ (n := 161) (by kernel_rfl) rfl ?_ ?_
                · intro i v w1 w2 h1 h2
                  match i, h1 with
                  | 1, h1 | 4, h1 | 5, h1 | 6, h1 => exact h1
                  | 0, ⟨B, e, hp⟩ => exact ⟨B, e, own_below hp h2⟩
                  | 2, ⟨R1, c1, e, hp⟩ => exact ⟨R1, c1, e, hp.below h2⟩
                  | 3, h1 => exact own_below h1 h2
                  | _ + 7, ⟨X, e, hp⟩ => exact ⟨X, e, hp.below h2⟩
                · simp only [Obl, List.take_succ_cons, List.take_zero]
                  refine ⟨?_, ?_, ?_, ?_, ?_, ?_, ?_, ?_, trivial⟩
                  all_goals
                    intro vs w' hR hK
                    simp [depsOf, Region.binds, putsOn, dstOf, Act.put, Known, seen] at hK ⊢
                  case refine_2 | refine_5 => go_wp2; exact ⟨rfl, rfl, Below.refl _ _, rfl⟩
                  case refine_1 =>
                    have hb := below_undrew hR
                    have ho : (w'.alloc (.cells #[] 28)).ownsRow y0.heap.size 28 1 (.slice (some ⟨w'.heap.size, 0, none⟩) 0 0) 0 [] := World.ownsRow_made w' #[] 0 hb.size (Nat.zero_le _) (by simp)
                    have HO := Hd.mk ho
                    clear ho
                    go_wp2
                    exact ⟨rfl, rfl, (Below.refl _ _).alloc (Nat.le_refl _) _, _, rfl, HO.out⟩
                  case refine_3 =>
                    have hb := below_undrew hR
                    have HB := Hd.mk hb
                    clear hb
                    by_cases h1c : cr = 1
                    · obtain rfl : ps = [] := List.eq_nil_of_length_eq_zero (by omega)
                      go_wp2
                      exact ⟨rfl, rfl, Below.refl _ _, _, ⟨_, rfl⟩, Row.nil _ _⟩
                    · go_wp2
                      exact ⟨rfl, rfl, Below.refl _ _, _, ⟨_, rfl⟩, (K2.out.tl.row).below HB.out⟩
                  case refine_4 =>
                    have hb := below_undrew hR
                    obtain ⟨⟨B0, hB, hown⟩, R1, ⟨c1, hR1⟩, hrow⟩ := hK
                    refine wpList_append_empty rfl (.tmp 109) (.tmp 111) 29 rfl y0.heap.size 28 i0 (.slice none 0 0) 24 Try.underlying29 HI.out HZ0.out HZ1.out HZ2.out rfl B0 hB hown R1 ps.length c1 (ps.map Part.v) hR1 (by simp) hrow (by omega) (by unfold maxLen; omega) hb.size fun v' w'' hb' ho' => ?_
                    exact ⟨rfl, rfl, hb', ho'⟩
                  case refine_6 =>
                    go_wp2
                    exact ⟨rfl, rfl, Below.refl _ _, rfl⟩
                  case refine_7 =>
                    have hb := below_undrew hR
                    have hcl := (Row.below K2.out.row hb) 0 (by simp)
                    obtain ⟨rb', ro', e, hc⟩ := hcl
                    simp only [Option.some.injEq, Addr.mk.injEq, and_true] at e
                    obtain ⟨rfl, rfl⟩ := e
                    simp only [List.map_cons, List.getElem_cons_zero, Nat.add_zero] at hc
                    go_wp2
                    exact ⟨rfl, rfl, Below.refl _ _, rfl⟩
                  case refine_8 =>
                    obtain ⟨a0, c0, l0⟩ := p0
                    simp only [Part.v] at hK ⊢
                    go_wp2
                    exact ⟨rfl, rfl, (Below.refl _ _).alloc (Nat.le_refl _) _, _, rfl, row_new _ _ _ _⟩
                · intro vs w' hR hK
                  simp [Known, List.range, List.range.loop] at hK
                  obtain ⟨-, -, -, hown, -, -, -, X, hX, hrow⟩ := hK
                  have hb := below_undrew hR
                  simp [putsOn, dstOf, Act.put, List.range, List.range.loop]
                  refine wpList_append_row rfl (.tmp 112) (.tmp 116) 29 rfl y0.heap.size 28 i0 (.slice none 0 0) 24 Try.underlying29 HI.out HZ0.out HZ1.out HZ2.out rfl _ ps.length (ps.map Part.v) rfl hown X 1 1 [p0.v] hX rfl hrow (part_one [p0]) (by omega) (by unfold maxLen; omega) hb.size fun v' w5 hown' hg => ?_
                  obtain ⟨qs, hqs⟩ : ∃ qs, qs = ps ++ [p0] := ⟨_, rfl⟩
                  obtain ⟨R', cr', rfl, hst⟩ := K2.out.rerow (qs := qs) hb hown hg hown' (by simp [hqs]) (by simp [hqs]) (fun x hx => K2.out.said x (by
                    rw [hqs] at hx
                    rcases List.mem_append.1 hx with h | h
                    · exact List.mem_cons_of_mem _ h
                    · rw [List.mem_singleton.1 h]; exact List.mem_cons_self ..))
                  rw [← hqs] at hst
                  have K3 := Hd.mk hst
                  clear hst hown hown' hg hb hrow hX hR hqs
                  go_wp2_with fail
                  have hy := B.len_any p c r (qs.map Part.v) _ K3.out.box
                  rw [List.length_map] at hy
                  refine hy.mono ?_
                  clear hy
                  rintro e y1 ⟨rfl, rfl⟩
                  go_wp2_with fail
                  have hy := B.all_any p c r (qs.map Part.v) _ K3.out.box (fun u hu => by
                    obtain ⟨P1, _, rfl⟩ := List.mem_map.1 hu
                    exact ⟨(P1.a, P1.l.length, P1.c), rfl⟩)
                  refine hy.mono ?_
                  clear hy
                  rintro e y2 ⟨v, rfl, hs, hown⟩
                  obtain ⟨A6, c6, rfl, hrow, hlen, _⟩ := own_row hown
                  rw [List.length_map]
                  rw [List.length_map] at hlen
                  have K8 : Hd (Stand w y2 p c r R' cr' qs qs) := ⟨K3.out.act hs K3.out.fits hcw⟩
                  have HR := Hd.mk hrow
                  clear hs hown hrow hlen
                  go_wp2_with fail
                  have hy := same_any A6 R' c6 cr' qs y2 HR.out K8.out.row (K8.out.said.below K8.out.below) (by have := K8.out.cap; have := K8.out.capm; unfold maxLen at this; omega)
                  refine hy.mono ?_
                  clear hy
                  rintro e y3 ⟨rfl, dd, rfl⟩
                  have K9 : Hd (Stand w (y2.drewN dd) p c r R' cr' qs qs) := ⟨K8.out.old (below_drewN _ _)⟩
                  generalize y2.drewN dd = y4 at K9
                  go_wp2_with fail
                  have hy := B.len_any p c r (qs.map Part.v) _ K9.out.box
                  rw [List.length_map] at hy
                  refine hy.mono ?_
                  clear hy
                  rintro e y5 ⟨rfl, rfl⟩
                  go_wp2
                  go_roundw
                  case rel => exact ⟨k + 1, R', cr', qs, by omega, by go_num, rfl, K9.out⟩
                  case measure => simp [intOf]; omega
            · by_cases h5 : d = 5
              · subst h5
                clear h3 h4
                cases ps with
                | nil =>
                  go_wp2_with fail
                  have hy := B.double_none p c r _ K1.out.box
                  refine hy.mono ?_
                  clear hy
                  rintro e y0 ⟨rfl, rfl⟩
                  go_wp2_with fail
                  have hy := B.len_any p c r (([] : List Part).map Part.v) _ K1.out.box
                  rw [List.length_map] at hy
                  refine hy.mono ?_
                  clear hy
                  rintro e y1 ⟨rfl, rfl⟩
                  go_wp2_with fail
                  have hy := B.all_any p c r (([] : List Part).map Part.v) _ K1.out.box (fun u hu => by
                    obtain ⟨P1, _, rfl⟩ := List.mem_map.1 hu
                    exact ⟨(P1.a, P1.l.length, P1.c), rfl⟩)
                  refine hy.mono ?_
                  clear hy
                  rintro e y2 ⟨v, rfl, hs, hown⟩
                  obtain ⟨A6, c6, rfl, hrow, hlen, _⟩ := own_row hown
                  rw [List.length_map]
                  rw [List.length_map] at hlen
                  have K8 : Hd (Stand w y2 p c r R cr ([] : List Part) ([] : List Part)) := ⟨K1.out.act hs K1.out.fits hcw⟩
                  have HR := Hd.mk hrow
                  clear hs hown hrow hlen
                  go_wp2_with fail
                  have hy := same_any A6 R c6 cr ([] : List Part) y2 HR.out K8.out.row (K8.out.said.below K8.out.below) (by have := K8.out.cap; have := K8.out.capm; unfold maxLen at this; omega)
                  refine hy.mono ?_
                  clear hy
                  rintro e y3 ⟨rfl, dd, rfl⟩
                  have K9 : Hd (Stand w (y2.drewN dd) p c r R cr ([] : List Part) ([] : List Part)) := ⟨K8.out.old (below_drewN _ _)⟩
                  generalize y2.drewN dd = y4 at K9
                  go_wp2_with fail
                  have hy := B.len_any p c r (([] : List Part).map Part.v) _ K9.out.box
                  rw [List.length_map] at hy
                  refine hy.mono ?_
                  clear hy
                  rintro e y5 ⟨rfl, rfl⟩
                  go_wp2
                  go_roundw
                  case rel => exact ⟨k + 1, R, cr, ([] : List Part), by omega, by go_num, rfl, K9.out⟩
                  case measure => simp [intOf]; omega
                | cons p0 ps =>
                  rw [List.length_cons] at hsz
                  by_cases hfull : ps.length + 1 = r
                  · obtain ⟨qs, hqs⟩ : ∃ qs, qs = p0 :: ps := ⟨_, rfl⟩
                    rw [← hqs] at HK K1 ⊢
                    have hfull' : qs.length = r := by rw [hqs]; simpa using hfull
                    have hz : ((qs.length : Int) == 0) = false := beq_eq_false_iff_ne.2 (by omega)
                    have hp0 : 0 < qs.length := by omega
                    clear hqs hfull hsz
                    subst hfull'
                    go_wp2_with fail
                    have hy := B.double_full p c qs.length (qs.map Part.v) _ K1.out.box (by simpa using hp0) (by simp)
                    refine hy.mono ?_
                    clear hy
                    rintro e y0 ⟨rfl, rfl⟩
                    go_wp2_with fail
                    have hy := B.len_any p c qs.length (qs.map Part.v) _ K1.out.box
                    rw [List.length_map] at hy
                    refine hy.mono ?_
                    clear hy
                    rintro e y1 ⟨rfl, rfl⟩
                    go_wp2_with fail
                    have hy := B.all_any p c qs.length (qs.map Part.v) _ K1.out.box (fun u hu => by
                      obtain ⟨P1, _, rfl⟩ := List.mem_map.1 hu
                      exact ⟨(P1.a, P1.l.length, P1.c), rfl⟩)
                    refine hy.mono ?_
                    clear hy
                    rintro e y2 ⟨v, rfl, hs, hown⟩
                    obtain ⟨A6, c6, rfl, hrow, hlen, _⟩ := own_row hown
                    rw [List.length_map]
                    rw [List.length_map] at hlen
                    have K8 : Hd (Stand w y2 p c qs.length R cr qs qs) := ⟨K1.out.act hs K1.out.fits hcw⟩
                    have HR := Hd.mk hrow
                    clear hs hown hrow hlen
                    go_wp2_with fail
                    have hy := same_any A6 R c6 cr qs y2 HR.out K8.out.row (K8.out.said.below K8.out.below) (by have := K8.out.cap; have := K8.out.capm; unfold maxLen at this; omega)
                    refine hy.mono ?_
                    clear hy
                    rintro e y3 ⟨rfl, dd, rfl⟩
                    have K9 : Hd (Stand w (y2.drewN dd) p c qs.length R cr qs qs) := ⟨K8.out.old (below_drewN _ _)⟩
                    generalize y2.drewN dd = y4 at K9
                    go_wp2_with fail
                    have hy := B.len_any p c qs.length (qs.map Part.v) _ K9.out.box
                    rw [List.length_map] at hy
                    refine hy.mono ?_
                    clear hy
                    rintro e y5 ⟨rfl, rfl⟩
                    go_wp2
                    go_roundw
                    case rel => exact ⟨k + 1, R, cr, qs, by omega, by go_num, rfl, K9.out⟩
                    case measure => simp [intOf]; omega
                  · have hz : (((ps.length : Int) + 1) == 0) = false := beq_eq_false_iff_ne.2 (by omega)
                    have hf : (((ps.length : Int) + 1) == (r : Int)) = false := beq_eq_false_iff_ne.2 (by omega)
                    have hlr : ps.length + 1 < r := by omega
                    clear hfull
                    obtain ⟨rb, ro, rfl, -⟩ := K1.out.row 0 (by simp)
                    go_wp2_with fail
                    generalize wr.alloc (.cells #[.int .u8 q, .slice a l.length cq] 31) = y0 at K1 ⊢
                    have hcap := K1.out.cap
                    rw [List.length_cons] at hcap
                    refine wp_region_rely_tail 7 (by kernel_rfl) (by kernel_rfl) (by kernel_rfl) (fun i v w' => match i with
                      | 0 => ∃ B, v = .slice B 0 0 ∧ w'.ownsRow y0.heap.size 28 1 (.slice B 0 0) 0 []
                      | 1 => v = .slice (some ⟨rb, ro, none⟩) (ps.length + 1) cr
                      | 2 => w'.ownsRow y0.heap.size 28 1 v (ps.length + 1) ((p0 :: ps).map Part.v)
                      | 3 => v = .slice (some ⟨rb, ro, none⟩) (ps.length + 1) cr
                      | 4 => v = .pointer (some ⟨rb, ro, none⟩)
                      | 5 => v = p0.v
                      | _ => ∃ X, v = .slice X 1 1 ∧ Row w' X [p0.v]) (fun w1 w2 => Below w1.heap.size w1 w2) (Below.refl _ _) (fun w1 w2 w3 h1 h2 => h1.trans (h2.mono h1.size)) ?_ (n := 161) (by kernel_rfl) rfl ?_ ?_
                    · intro i v w1 w2 h1 h2
                      match i, h1 with
                      | 1, h1 | 3, h1 | 4, h1 | 5, h1 => exact h1
                      | 0, ⟨B, e, hp⟩ => exact ⟨B, e, own_below hp h2⟩
                      | 2, h1 => exact own_below h1 h2
                      | _ + 6, ⟨X, e, hp⟩ => exact ⟨X, e, hp.below h2⟩
                    · simp only [Obl, List.take_succ_cons, List.take_zero]
                      refine ⟨?_, ?_, ?_, ?_, ?_, ?_, ?_, trivial⟩
                      all_goals
                        intro vs w' hR hK
                        simp [depsOf, Region.binds, putsOn, dstOf, Act.put, Known, seen] at hK ⊢
                      case refine_2 | refine_4 => go_wp2; exact ⟨rfl, rfl, Below.refl _ _, rfl⟩
                      case refine_1 =>
                        have hb := below_undrew hR
                        have ho : (w'.alloc (.cells #[] 28)).ownsRow y0.heap.size 28 1 (.slice (some ⟨w'.heap.size, 0, none⟩) 0 0) 0 [] := World.ownsRow_made w' #[] 0 hb.size (Nat.zero_le _) (by simp)
                        have HO := Hd.mk ho
                        clear ho
                        go_wp2
                        exact ⟨rfl, rfl, (Below.refl _ _).alloc (Nat.le_refl _) _, _, rfl, HO.out⟩
                      case refine_3 =>
                        have hb := below_undrew hR
                        obtain ⟨⟨B0, hB, hown⟩, hR1⟩ := hK
                        refine wpList_append_empty rfl (.tmp 122) (.tmp 123) 29 rfl y0.heap.size 28 i0 (.slice none 0 0) 24 Try.underlying29 HI.out HZ0.out HZ1.out HZ2.out rfl B0 hB hown (some ⟨rb, ro, none⟩) (ps.length + 1) cr ((p0 :: ps).map Part.v) hR1 (by simp) (K1.out.row.below hb) (by omega) (by unfold maxLen; omega) hb.size fun v' w'' hb' ho' => ?_
                        exact ⟨rfl, rfl, hb', ho'⟩
                      case refine_5 =>
                        go_wp2
                        exact ⟨rfl, rfl, Below.refl _ _, rfl⟩
                      case refine_6 =>
                        have hb := below_undrew hR
                        have hcl := (Row.below K1.out.row hb) 0 (by simp)
                        obtain ⟨rb', ro', e, hc⟩ := hcl
                        simp only [Option.some.injEq, Addr.mk.injEq, and_true] at e
                        obtain ⟨rfl, rfl⟩ := e
                        simp only [List.map_cons, List.getElem_cons_zero, Nat.add_zero] at hc
                        go_wp2
                        exact ⟨rfl, rfl, Below.refl _ _, rfl⟩
                      case refine_7 =>
                        obtain ⟨a0, c0, l0⟩ := p0
                        simp only [Part.v] at hK ⊢
                        go_wp2
                        exact ⟨rfl, rfl, (Below.refl _ _).alloc (Nat.le_refl _) _, _, rfl, row_new _ _ _ _⟩
                    · intro vs w' hR hK
                      simp [Known, List.range, List.range.loop] at hK
                      obtain ⟨-, -, hown, -, -, -, X, hX, hrow⟩ := hK
                      have hb := below_undrew hR
                      simp [putsOn, dstOf, Act.put, List.range, List.range.loop]
                      refine wpList_append_row rfl (.tmp 124) (.tmp 128) 29 rfl y0.heap.size 28 i0 (.slice none 0 0) 24 Try.underlying29 HI.out HZ0.out HZ1.out HZ2.out rfl _ (ps.length + 1) ((p0 :: ps).map Part.v) rfl hown X 1 1 [p0.v] hX rfl hrow (part_one [p0]) (by omega) (by unfold maxLen; omega) hb.size fun v' w5 hown' hg => ?_
                      obtain ⟨qs, hqs⟩ : ∃ qs, qs = (p0 :: ps) ++ [p0] := ⟨_, rfl⟩
                      obtain ⟨R', cr', rfl, hst⟩ := K1.out.rerow (qs := qs) hb hown hg hown' (by simp [hqs]) (by simp [hqs]) (fun x hx => K1.out.said x (by
                        rw [hqs] at hx
                        rcases List.mem_append.1 hx with h | h
                        · exact h
                        · rw [List.mem_singleton.1 h]; exact List.mem_cons_self ..))
                      have K3 := Hd.mk hst
                      have HQ := Hd.mk hqs
                      clear hst hown hown' hg hb hrow hX hR hqs
                      go_wp2_with fail
                      have hy := B.double_some p c r p0.v (ps.map Part.v) w5 K3.out.box (by simp; omega)
                      refine hy.mono ?_
                      clear hy
                      rintro e y7 ⟨rfl, hs⟩
                      have K4 : Hd (Stand w y7 p c r R' cr' qs qs) := ⟨K3.out.act (by rw [HQ.out]; simpa using hs) (by rw [HQ.out]; simp; omega) hcw⟩
                      clear hs
                      go_wp2_with fail
                      have hy := B.len_any p c r (qs.map Part.v) _ K4.out.box
                      rw [List.length_map] at hy
                      refine hy.mono ?_
                      clear hy
                      rintro e y1 ⟨rfl, rfl⟩
                      go_wp2_with fail
                      have hy := B.all_any p c r (qs.map Part.v) _ K4.out.box (fun u hu => by
                        obtain ⟨P1, _, rfl⟩ := List.mem_map.1 hu
                        exact ⟨(P1.a, P1.l.length, P1.c), rfl⟩)
                      refine hy.mono ?_
                      clear hy
                      rintro e y2 ⟨v, rfl, hs, hown⟩
                      obtain ⟨A6, c6, rfl, hrow, hlen, _⟩ := own_row hown
                      rw [List.length_map]
                      rw [List.length_map] at hlen
                      have K8 : Hd (Stand w y2 p c r R' cr' qs qs) := ⟨K4.out.act hs K4.out.fits hcw⟩
                      have HR := Hd.mk hrow
                      clear hs hown hrow hlen
                      go_wp2_with fail
                      have hy := same_any A6 R' c6 cr' qs y2 HR.out K8.out.row (K8.out.said.below K8.out.below) (by have := K8.out.cap; have := K8.out.capm; unfold maxLen at this; omega)
                      refine hy.mono ?_
                      clear hy
                      rintro e y3 ⟨rfl, dd, rfl⟩
                      have K9 : Hd (Stand w (y2.drewN dd) p c r R' cr' qs qs) := ⟨K8.out.old (below_drewN _ _)⟩
                      generalize y2.drewN dd = y4 at K9
                      go_wp2_with fail
                      have hy := B.len_any p c r (qs.map Part.v) _ K9.out.box
                      rw [List.length_map] at hy
                      refine hy.mono ?_
                      clear hy
                      rintro e y5 ⟨rfl, rfl⟩
                      go_wp2
                      go_roundw
                      case rel => exact ⟨k + 1, R', cr', qs, by omega, by go_num, rfl, K9.out⟩
                      case measure => simp [intOf]; omega
              · have h3' : ((d : Int) == 3) = false := beq_eq_false_iff_ne.2 (by omega)
                have h4' : ((d : Int) == 4) = false := beq_eq_false_iff_ne.2 (by omega)
                have h5' : ((d : Int) == 5) = false := beq_eq_false_iff_ne.2 (by omega)
                clear h3 h4 h5
                by_cases hfull : ps.length = r
                · subst hfull
                  go_wp2_with fail
                  have hy := B.put_full p c ps.length (ps.map Part.v) (.slice a l.length cq) _ K1.out.box (by simp)
                  refine hy.mono ?_
                  clear hy
                  rintro e y0 ⟨rfl, rfl⟩
                  go_wp2_with fail
                  have hy := B.len_any p c ps.length (ps.map Part.v) _ K1.out.box
                  rw [List.length_map] at hy
                  refine hy.mono ?_
                  clear hy
                  rintro e y1 ⟨rfl, rfl⟩
                  go_wp2_with fail
                  have hy := B.all_any p c ps.length (ps.map Part.v) _ K1.out.box (fun u hu => by
                    obtain ⟨P1, _, rfl⟩ := List.mem_map.1 hu
                    exact ⟨(P1.a, P1.l.length, P1.c), rfl⟩)
                  refine hy.mono ?_
                  clear hy
                  rintro e y2 ⟨v, rfl, hs, hown⟩
                  obtain ⟨A6, c6, rfl, hrow, hlen, _⟩ := own_row hown
                  rw [List.length_map]
                  rw [List.length_map] at hlen
                  have K8 : Hd (Stand w y2 p c ps.length R cr ps ps) := ⟨K1.out.act hs K1.out.fits hcw⟩
                  have HR := Hd.mk hrow
                  clear hs hown hrow hlen
                  go_wp2_with fail
                  have hy := same_any A6 R c6 cr ps y2 HR.out K8.out.row (K8.out.said.below K8.out.below) (by have := K8.out.cap; have := K8.out.capm; unfold maxLen at this; omega)
                  refine hy.mono ?_
                  clear hy
                  rintro e y3 ⟨rfl, dd, rfl⟩
                  have K9 : Hd (Stand w (y2.drewN dd) p c ps.length R cr ps ps) := ⟨K8.out.old (below_drewN _ _)⟩
                  generalize y2.drewN dd = y4 at K9
                  go_wp2_with fail
                  have hy := B.len_any p c ps.length (ps.map Part.v) _ K9.out.box
                  rw [List.length_map] at hy
                  refine hy.mono ?_
                  clear hy
                  rintro e y5 ⟨rfl, rfl⟩
                  go_wp2
                  go_roundw
                  case rel => exact ⟨k + 1, R, cr, ps, by omega, by go_num, rfl, K9.out⟩
                  case measure => simp [intOf]; omega
                · have hf : ((ps.length : Int) == (r : Int)) = false := beq_eq_false_iff_ne.2 (by omega)
                  have hlr : ps.length < r := by omega
                  clear hfull
                  have HM : Hd (Row (wr.alloc (.cells #[.int .u8 q, .slice a l.length cq] 31)) (some ⟨wr.heap.size, 0, none⟩) [.int .u8 q, .slice a l.length cq]) := ⟨row_new _ _ _ _⟩
                  go_wp2_with fail
                  generalize wr.alloc (.cells #[.int .u8 q, .slice a l.length cq] 31) = y0 at K1 HM ⊢
                  refine wp_region_rely_tail 6 (by kernel_rfl) (by kernel_rfl) (by kernel_rfl) (fun i v w' => match i with
                    | 0 => ∃ B, v = .slice B 0 0 ∧ w'.ownsRow y0.heap.size 28 1 (.slice B 0 0) 0 []
                    | 1 => v = .slice R ps.length cr
                    | 2 => w'.ownsRow y0.heap.size 28 1 v ps.length (ps.map Part.v)
                    | 3 => v = .pointer (some ⟨wr.heap.size, 1, none⟩)
                    | 4 => v = .slice a l.length cq
                    | _ => ∃ X, v = .slice X 1 1 ∧ Row w' X [.slice a l.length cq]) (fun w1 w2 => Below w1.heap.size w1 w2) (Below.refl _ _) (fun w1 w2 w3 h1 h2 => h1.trans (h2.mono h1.size)) ?_ (n := 161) (by kernel_rfl) rfl ?_ ?_
                  · intro i v w1 w2 h1 h2
                    match i, h1 with
                    | 1, h1 | 3, h1 | 4, h1 => exact h1
                    | 0, ⟨B, e, hp⟩ => exact ⟨B, e, own_below hp h2⟩
                    | 2, h1 => exact own_below h1 h2
                    | _ + 5, ⟨X, e, hp⟩ => exact ⟨X, e, hp.below h2⟩
                  · simp only [Obl, List.take_succ_cons, List.take_zero]
                    refine ⟨?_, ?_, ?_, ?_, ?_, ?_, trivial⟩
                    all_goals
                      intro vs w' hR hK
                      simp [depsOf, Region.binds, putsOn, dstOf, Act.put, Known, seen] at hK ⊢
                    case refine_2 | refine_4 => go_wp2; exact ⟨rfl, rfl, Below.refl _ _, rfl⟩
                    case refine_1 =>
                      have hb := below_undrew hR
                      have ho : (w'.alloc (.cells #[] 28)).ownsRow y0.heap.size 28 1 (.slice (some ⟨w'.heap.size, 0, none⟩) 0 0) 0 [] := World.ownsRow_made w' #[] 0 hb.size (Nat.zero_le _) (by simp)
                      have HO := Hd.mk ho
                      clear ho
                      go_wp2
                      exact ⟨rfl, rfl, (Below.refl _ _).alloc (Nat.le_refl _) _, _, rfl, HO.out⟩
                    case refine_3 =>
                      have hb := below_undrew hR
                      obtain ⟨⟨B0, hB, hown⟩, hR1⟩ := hK
                      refine wpList_append_empty rfl (.tmp 49) (.tmp 50) 29 rfl y0.heap.size 28 i0 (.slice none 0 0) 24 Try.underlying29 HI.out HZ0.out HZ1.out HZ2.out rfl B0 hB hown R ps.length cr (ps.map Part.v) hR1 (by simp) (K1.out.row.below hb) (by omega) (by unfold maxLen; omega) hb.size fun v' w'' hb' ho' => ?_
                      exact ⟨rfl, rfl, hb', ho'⟩
                    case refine_5 =>
                      have hb := below_undrew hR
                      obtain ⟨rb', ro', e, hc⟩ := (HM.out.below hb) 1 (by simp)
                      simp only [Option.some.injEq, Addr.mk.injEq, and_true] at e
                      obtain ⟨rfl, rfl⟩ := e
                      simp only [List.getElem_cons_succ, List.getElem_cons_zero, Nat.zero_add] at hc
                      go_wp2
                      exact ⟨rfl, rfl, Below.refl _ _, rfl⟩
                    case refine_6 =>
                      go_wp2
                      exact ⟨rfl, rfl, (Below.refl _ _).alloc (Nat.le_refl _) _, _, rfl, row_new _ _ _ _⟩
                  · intro vs w' hR hK
                    simp [Known, List.range, List.range.loop] at hK
                    obtain ⟨-, -, hown, -, -, X, hX, hrow⟩ := hK
                    have hb := below_undrew hR
                    simp [putsOn, dstOf, Act.put, List.range, List.range.loop]
                    refine wpList_append_row rfl (.tmp 51) (.tmp 54) 29 rfl y0.heap.size 28 i0 (.slice none 0 0) 24 Try.underlying29 HI.out HZ0.out HZ1.out HZ2.out rfl _ ps.length (ps.map Part.v) rfl hown X 1 1 [.slice a l.length cq] hX rfl hrow (part_one [⟨a, cq, l⟩]) (by omega) (by unfold maxLen; omega) hb.size fun v' w5 hown' hg => ?_
                    obtain ⟨qs, hqs⟩ : ∃ qs, qs = ps ++ [P0] := ⟨_, rfl⟩
                    obtain ⟨R', cr', rfl, hst⟩ := K1.out.rerow (qs := qs) hb hown hg hown' (by simp [hqs]) (by rw [hqs, HP.out]; simp [Part.v]) (by
                      intro x hx
                      rw [hqs] at hx
                      rcases List.mem_append.1 hx with h | h
                      · exact K1.out.said x h
                      · exact HS.out x h)
                    have hmr := (HM.out.below hb).grown hg (by
                      intro x e hh
                      cases e
                      obtain ⟨rb', ro', e, hc⟩ := HM.out 0 (by simp)
                      simp only [Option.some.injEq, Addr.mk.injEq, and_true] at e
                      obtain ⟨rfl, rfl⟩ := e
                      have h1 := World.block_lt_of_cell? y0 _ hc
                      have h2 := (hown.lt _ hh.symm).1
                      simp only at h1 h2
                      omega)
                    obtain ⟨rb', ro', e, hc⟩ := hmr 1 (by simp)
                    simp only [Option.some.injEq, Addr.mk.injEq, and_true] at e
                    obtain ⟨rfl, rfl⟩ := e
                    simp only [List.getElem_cons_succ, List.getElem_cons_zero, Nat.zero_add] at hc
                    have K3 := Hd.mk hst
                    have HQ := Hd.mk hqs
                    clear hst hown hown' hg hb hrow hX hR hqs hmr
                    go_wp2_with fail
                    have hy := B.put_room p c r (ps.map Part.v) (.slice a l.length cq) w5 K3.out.box (by simp; omega)
                    refine hy.mono ?_
                    clear hy
                    rintro e y7 ⟨rfl, hs⟩
                    have K4 : Hd (Stand w y7 p c r R' cr' qs qs) := ⟨K3.out.act (by rw [HQ.out, HP.out]; simpa [Part.v] using hs) (by rw [HQ.out]; simp; omega) hcw⟩
                    clear hs hc
                    go_wp2_with fail
                    have hy := B.len_any p c r (qs.map Part.v) _ K4.out.box
                    rw [List.length_map] at hy
                    refine hy.mono ?_
                    clear hy
                    rintro e y1 ⟨rfl, rfl⟩
                    go_wp2_with fail
                    have hy := B.all_any p c r (qs.map Part.v) _ K4.out.box (fun u hu => by
                      obtain ⟨P1, _, rfl⟩ := List.mem_map.1 hu
                      exact ⟨(P1.a, P1.l.length, P1.c), rfl⟩)
                    refine hy.mono ?_
                    clear hy
                    rintro e y2 ⟨v, rfl, hs, hown⟩
                    obtain ⟨A6, c6, rfl, hrow, hlen, _⟩ := own_row hown
                    rw [List.length_map]
                    rw [List.length_map] at hlen
                    have K8 : Hd (Stand w y2 p c r R' cr' qs qs) := ⟨K4.out.act hs K4.out.fits hcw⟩
                    have HR := Hd.mk hrow
                    clear hs hown hrow hlen
                    go_wp2_with fail
                    have hy := same_any A6 R' c6 cr' qs y2 HR.out K8.out.row (K8.out.said.below K8.out.below) (by have := K8.out.cap; have := K8.out.capm; unfold maxLen at this; omega)
                    refine hy.mono ?_
                    clear hy
                    rintro e y3 ⟨rfl, dd, rfl⟩
                    have K9 : Hd (Stand w (y2.drewN dd) p c r R' cr' qs qs) := ⟨K8.out.old (below_drewN _ _)⟩
                    generalize y2.drewN dd = y4 at K9
                    go_wp2_with fail
                    have hy := B.len_any p c r (qs.map Part.v) _ K9.out.box
                    rw [List.length_map] at hy
                    refine hy.mono ?_
                    clear hy
                    rintro e y5 ⟨rfl, rfl⟩
                    go_wp2
                    go_roundw
                    case rel => exact ⟨k + 1, R', cr', qs, by omega, by go_num, rfl, K9.out⟩
                    case measure => simp [intOf]; omega

      · obtain rfl : k = ms.length := by omega
        go_wp2
        go_ret
        exact ⟨rfl, HK.out.below⟩
end Go.Proofs.Ytdehkpdimghilaa
