/- Laws for a select of one case with a default, in a walk of one goroutine: the walk goes on as everywhere else. No program in sight. -/
import Derived.Conc.LoneCalls
import Derived.Conc.LoneSelectN
import Derived.Tactics
namespace Go.Proofs.Ytdehkpdimghilaa
open Go.Conc Go.RowKit

/-- As Code.wp, in a frame that was called in the ordinary way. -/
def wpN (P : Program) (c : Code) (Q : Exit → Act → World → Prop) (a : Act) (w : World) : Prop :=
  ∀ (b : Frame) (k : List Item) (cs : List Frame), b.kind = .normal → ∃ e a' w', Q e a' w' ∧ Arrives P (lone (b.at a (.code c :: k)) cs w) b k cs e a' w'

section
variable {P : Program} {Q : Exit → Act → World → Prop} {a : Act} {w : World}
theorem wpN_of {c : Code} (h : c.wp P Q a w) : wpN P c Q a w := fun b k cs _ => h b k cs
theorem wpN_seq {x y : Code} (h : wpN P x (Exit.then (fun a w => wpN P y Q a w) Q) a w) : wpN P (Code.seq x y) Q a w := by
  intro b k cs hb
  obtain ⟨e, a₁, w₁, hq, harr⟩ := h b (.code y :: k) cs hb
  cases e with
  | normal =>
    obtain ⟨e₂, a₂, w₂, hq₂, harr₂⟩ := hq b k cs hb
    exact ⟨e₂, a₂, w₂, hq₂, .of_steps (.head step_seq harr) harr₂⟩
  | exit id => exact ⟨_, a₁, w₁, hq, .of_steps (.one step_seq) (.pass (x := .code y) rfl (fun _ _ => .inl (by simp)) harr)⟩
  | goto l => exact ⟨_, a₁, w₁, hq, .of_steps (.one step_seq) (.pass (x := .code y) rfl (fun _ _ => .inl (by simp)) harr)⟩
  | ret => exact ⟨_, a₁, w₁, hq, .of_steps (.one step_seq) (.pass (x := .code y) rfl (fun _ _ => .inl (by simp)) harr)⟩
  | panic ch => exact ⟨_, a₁, w₁, hq, .of_steps (.one step_seq) (.pass (x := .code y) rfl (fun _ _ => .inl (by simp)) harr)⟩
  | outgrown => exact ⟨_, a₁, w₁, hq, .of_steps (.one step_seq) (.pass (x := .code y) rfl (fun _ _ => .inl (by simp)) harr)⟩

theorem calls_of_wpN {f : FuncId} {fn : Func} {c : Code} {args : Array Value} {R : Ending → World → Prop}
    (hf : P.funcs[f]? = some fn) (hb : fn.body = some c)
    (h : wpN P c (bodyPost P fn R) { tmps := args ++ Array.replicate (fn.ntmps - args.size) undef, defers := [] } w) :
    Calls P f args w R := by
  intro cs
  let b : Frame := { (default : Frame) with fn := f, kind := .normal }
  have henter : Frame.enter P f args .normal =
      b.at { tmps := args ++ Array.replicate (fn.ntmps - args.size) undef, defers := [] } [.code c] := by
    simp [Frame.enter, Frame.at, hf, hb, b]
  obtain ⟨e, a', w', hq, harr⟩ := h b [] cs rfl
  rw [← henter] at harr
  cases e with
  | normal =>
    obtain ⟨hd, v, hr, hR⟩ := hq
    exact ⟨.returned v, w', _, hR, Steps.trans harr (.one step_end), rfl, rfl, hd, rfl, fn, hf, hr⟩
  | ret =>
    obtain ⟨hd, v, hr, hR⟩ := hq
    obtain ⟨todo, hs⟩ := harr
    exact ⟨.returned v, w', _, hR, hs, rfl, rfl, hd, rfl, fn, hf, hr⟩
  | panic chain =>
    obtain ⟨hd, hR⟩ := hq
    obtain ⟨todo, hs⟩ := harr
    exact ⟨.panicked chain, w', _, hR, hs, rfl, rfl, hd, fn, hf⟩
  | exit id => exact hq.elim
  | goto l => exact hq.elim
  | outgrown => exact ⟨.outgrown, w', b, hq, harr.resolve_left (by simp [b]), rfl, trivial⟩

/-- A region that begins with a communication. -/
theorem wpN_comm {id : Nat} {o : Oper} {rest : List Oper} {v : Value} {w' : World}
    (hstep : ∀ (b : Frame) (k : List Item) (cs : List Frame), b.kind = .normal →
      step P (lone (b.at a (.inRegion (o :: rest).toArray (0 :: List.range' 1 rest.length) :: k)) cs w) = .next (lone ((b.at a (.inRegion (o :: rest).toArray (0 :: List.range' 1 rest.length) :: k)).finish v) cs w'))
    (h : wpList P (o :: rest).toArray Q rest (a.put o.dst v) w') : wpN P (.region id (o :: rest).toArray false) Q a w := by
  intro b k cs hb
  have h2 : wpOps P (o :: rest).toArray Q (List.range' 1 rest.length) (a.put o.dst v) w' := by
    rw [wpOps_eq_wpList rest 1 (fun j => by simp [Nat.add_comm])]
    exact h
  obtain ⟨e, a', w'', q, r⟩ := wp_ops _ _ _ h2 b k cs
  refine ⟨e, a', w'', q, .of_steps (.one step_region) (.of_steps (.one ?_) r)⟩
  rw [show List.range (o :: rest).toArray.size = 0 :: List.range' 1 rest.length from by simp [List.range_eq_range', List.range'_succ], hstep b k cs hb, Frame.finish_at]
  simp

variable {id : Nat} {o : Oper} {rest : List Oper} {c cap s r : Nat} {buf : Array Value} {z v : Value}

theorem sel_send_res (c : Nat) (v z : Value) (i : Int) (u : Value) (ok : Bool) : commResult #[scase c v z] .select i u ok = .tuple #[goInt i, .bool ok] := by
  simp [commResult, scase, List.zipIdx_cons]
theorem sel_recv_res (c : Nat) (z u : Value) (ok : Bool) : commResult #[rcase c z] .select ((0 : Nat) : Int) u ok = .tuple #[goInt 0, .bool ok, u] := by
  simp [commResult, rcase, List.zipIdx_cons]
theorem sel_recv_none (c : Nat) (z u : Value) (ok : Bool) : commResult #[rcase c z] .select (-1) u ok = .tuple #[goInt (-1), .bool ok, z] := by
  simp [commResult, rcase, List.zipIdx_cons]

theorem one_case {α : Type} {x : α} {m : Nat} {c' : α} (hm : m ≠ 0) (h : #[x][m]? = some c') : False := by
  rcases m with _ | m
  · exact hm rfl
  · simp at h

theorem wpN_send_room (hg : o.guard = none) (hr : (execOp a.eval o).run P w = .ok (.comm #[scase c v z] false .select) w)
    (hc : w.heap[c]? = some (.chan cap buf false s r false)) (hroom : buf.size < cap)
    (h : wpList P (o :: rest).toArray Q rest (a.put o.dst (.tuple #[goInt 0, .bool false])) (w.setChan c cap (buf.push v) false (s + 1) r false)) :
    wpN P (.region id (o :: rest).toArray false) Q a w := by
  refine wpN_comm (fun b k cs hb => ?_) h
  have := step_lone_sel_send_room (P := P) (k := 0) (stepG_comm (P := P) (main := true) (b := b) (a := a) (k := k) (cs := cs) (w := w) (ops := (o :: rest).toArray) (i := 0) (rest := List.range' 1 rest.length) (o := o) (by simp) (by simp [Region.wanted, hg]) (by rw [hb]; decide) hr) rfl
    (fun m c' hm hc' => (one_case hm hc').elim) hc hroom
  rw [sel_send_res] at this
  exact this

theorem wpN_send_full (hg : o.guard = none) (hr : (execOp a.eval o).run P w = .ok (.comm #[scase c v z] false .select) w)
    (hc : w.heap[c]? = some (.chan cap buf false s r false)) (hfull : cap ≤ buf.size)
    (h : wpList P (o :: rest).toArray Q rest (a.put o.dst (.tuple #[goInt (-1), .bool false])) w) :
    wpN P (.region id (o :: rest).toArray false) Q a w := by
  refine wpN_comm (fun b k cs hb => ?_) h
  have := step_lone_sel_default (P := P) (stepG_comm (P := P) (main := true) (b := b) (a := a) (k := k) (cs := cs) (w := w) (ops := (o :: rest).toArray) (i := 0) (rest := List.range' 1 rest.length) (o := o) (by simp) (by simp [Region.wanted, hg]) (by rw [hb]; decide) hr)
    (fun cc hcc => by simp only [List.mem_toArray, List.mem_singleton] at hcc; subst hcc; exact noWay_send hc hfull)
  rw [sel_send_res] at this
  exact this

theorem wpN_recv_some (hg : o.guard = none) (hr : (execOp a.eval o).run P w = .ok (.comm #[rcase c z] false .select) w)
    (hc : w.heap[c]? = some (.chan cap buf false s r false)) (hsome : 0 < buf.size)
    (h : wpList P (o :: rest).toArray Q rest (a.put o.dst (.tuple #[goInt 0, .bool true, buf.getD 0 undef])) (w.setChan c cap (buf.extract 1 buf.size) false s (r + 1) false)) :
    wpN P (.region id (o :: rest).toArray false) Q a w := by
  refine wpN_comm (fun b k cs hb => ?_) h
  have := step_lone_sel_recv_buf (P := P) (k := 0) (stepG_comm (P := P) (main := true) (b := b) (a := a) (k := k) (cs := cs) (w := w) (ops := (o :: rest).toArray) (i := 0) (rest := List.range' 1 rest.length) (o := o) (by simp) (by simp [Region.wanted, hg]) (by rw [hb]; decide) hr) rfl
    (fun m c' hm hc' => (one_case hm hc').elim) hc hsome
  rw [sel_recv_res] at this
  exact this

theorem wpN_recv_none (hg : o.guard = none) (hr : (execOp a.eval o).run P w = .ok (.comm #[rcase c z] false .select) w)
    (hc : w.heap[c]? = some (.chan cap #[] false s r false))
    (h : wpList P (o :: rest).toArray Q rest (a.put o.dst (.tuple #[goInt (-1), .bool false, z])) w) :
    wpN P (.region id (o :: rest).toArray false) Q a w := by
  refine wpN_comm (fun b k cs hb => ?_) h
  have := step_lone_sel_default (P := P) (stepG_comm (P := P) (main := true) (b := b) (a := a) (k := k) (cs := cs) (w := w) (ops := (o :: rest).toArray) (i := 0) (rest := List.range' 1 rest.length) (o := o) (by simp) (by simp [Region.wanted, hg]) (by rw [hb]; decide) hr)
    (fun cc hcc => by simp only [List.mem_toArray, List.mem_singleton] at hcc; subst hcc; exact noWay_recv hc)
  rw [sel_recv_none] at this
  exact this
end
end Go.Proofs.Ytdehkpdimghilaa
