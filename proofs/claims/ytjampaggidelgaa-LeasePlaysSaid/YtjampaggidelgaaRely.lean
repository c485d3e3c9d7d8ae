/- A law for a region that draws its order: each operation is shown by itself, in whatever world the others may have left; no order is looked at. No program in sight. -/
import Derived.Orders
import Derived.Tactics
namespace Go.Proofs.Ytjampaggidelgaa

/-- What one operation leaves: its value, and the world. -/
def Post1 (o : Oper) (D : List Deferred) (post : Value → World → Prop) : Exit → Act → World → Prop := fun e a w => e = .normal ∧ a.defers = D ∧ post (match o.dst with | some d => a.tmps.getD d undef | none => undef) w

def plainOp : Op → Bool
  | .select _ _ => false
  | _ => true

theorem getD_put (a : Act) (d : Nat) (v : Value) (h : d < a.tmps.size) : (a.put (some d) v).tmps.getD d undef = v := by
  simp [Act.put, h]

section
variable {P : Program} {ops : Array Oper}

/-- An operation that was shown in one frame, taken in another one that holds the same where it looks. -/
theorem one_op {o : Oper} {i : Nat} {a a' : Act} {w : World} {post : Value → World → Prop} {Q : Exit → Act → World → Prop} {K : Act → World → Prop}
    (hi : ops[i]? = some o) (h : wpList P ops (Post1 o a.defers post) [o] a w) (hd : ∀ d, o.dst = some d → d < a.tmps.size) (hs : plainOp o.op = true)
    (heq : ∀ x ∈ o.op.operands, a'.eval x = a.eval x) (hwt : Region.wanted o (yielded ops a'.tmps) = Region.wanted o (yielded ops a.tmps))
    (hK : ∀ v w', post (match o.dst with | some _ => v | none => undef) w' → K (a'.put o.dst v) w') : wpOp P ops Q i K a' w := by
  have hns : ∀ cs b, o.op ≠ .select cs b := fun cs b e => by rw [e] at hs; cases hs
  have hval : ∀ v w', Post1 o a.defers post .normal (a.put o.dst v) w' → K (a'.put o.dst v) w' := by
    intro v w' hp
    refine hK v w' ?_
    have := hp.2.2
    cases hdst : o.dst with
    | none => rw [hdst] at this; exact this
    | some d => rw [hdst] at this; rw [← getD_put a d v (hd d hdst)]; exact this
  unfold wpOp
  simp only [hi]
  simp only [wpList] at h
  rw [hwt]
  split
  · rename_i hw
    rw [if_pos hw] at h
    rcases h with h | ⟨_, b, wb, hb, _⟩
    · left
      unfold Oper.wp at h ⊢
      rw [execOp_congr o hns heq]
      generalize (execOp a.eval o).run P w = r at h
      cases r with
      | ok n w' =>
        cases n with
        | value v => exact hval _ _ h
        | skip => exact hval _ _ h
        | defer d =>
          have he := congrArg List.length h.2.1
          cases hdst : o.dst <;> simp [Act.put, hdst] at he
        | enter f args => 
          refine Calls.mono h fun e w'' he => ?_
          cases e with
          | returned v => exact hval _ _ he
          | panicked c => exact absurd he.1 (by simp)
          | outgrown => obtain ⟨_, _, hb, _⟩ := he; cases hb
        | row r args => exact Rows.mono h fun v w'' he => hval _ _ he
        | _ => exact h.elim
      | halt x w' =>
        cases x with
        | panic v => exact absurd h.1 (by simp)
        | _ => exact h.elim
    · cases hb
  · rename_i hw
    rw [if_neg hw] at h
    exact hval _ _ h

/-- The operations that an operation stands behind, by its own edges. -/
def depsOf (o : Oper) : List Nat := o.after.toList.filterMap fun e => if Region.binds .any e then some e.on else none

def dstOf (ops : Array Oper) (j : Nat) : Option Nat := (ops[j]?).bind Oper.dst

/-- What the walk may ask of a region: each slot is written once; an operation looks at what it stands behind, or at what is written behind it. -/
def relyOk (ops : Array Oper) : Bool :=
  (List.range ops.size).all fun i => match ops[i]? with
    | none => true
    | some o => plainOp o.op &&
      (depsOf o).all (fun j => decide (j < i)) &&
      (o.looksAt ops).all (fun t =>
        (depsOf o).any (fun j => (dstOf ops j) == some t) ||
        (List.range ops.size).all (fun k => (dstOf ops k) != some t || ((ops[k]?).map (fun p => (depsOf p).contains i)).getD false)) &&
      (List.range ops.size).all (fun k => k == i || (o.dst.isNone || (dstOf ops k) != o.dst))

def Known (G : Nat → Value → World → Prop) (vs : Nat → Value) (w : World) : List Nat → Prop
  | [] => True
  | j :: js => G j (vs j) w ∧ Known G vs w js
theorem Known.mem {G : Nat → Value → World → Prop} {vs : Nat → Value} {w : World} : ∀ {l : List Nat}, (∀ j ∈ l, G j (vs j) w) → Known G vs w l
  | [], _ => trivial
  | j :: js, h => ⟨h j (by simp), Known.mem fun k hk => h k (by simp [hk])⟩

def putsOn (ops : Array Oper) (vs : Nat → Value) : List Nat → Act → Act
  | [], a => a
  | j :: js, a => putsOn ops vs js (a.put (dstOf ops j) (vs j))

theorem put_size (a : Act) (d : Option Nat) (v : Value) : (a.put d v).tmps.size = a.tmps.size := by cases d <;> simp [Act.put]
theorem put_defers (a : Act) (d : Option Nat) (v : Value) : (a.put d v).defers = a.defers := by cases d <;> rfl
theorem putsOn_size (ops : Array Oper) (vs : Nat → Value) : ∀ (l : List Nat) (a : Act), (putsOn ops vs l a).tmps.size = a.tmps.size
  | [], _ => rfl
  | j :: js, a => by rw [putsOn, putsOn_size ops vs js, put_size]
theorem putsOn_defers (ops : Array Oper) (vs : Nat → Value) : ∀ (l : List Nat) (a : Act), (putsOn ops vs l a).defers = a.defers
  | [], _ => rfl
  | j :: js, a => by rw [putsOn, putsOn_defers ops vs js, put_defers]

theorem put_get (a : Act) (d : Option Nat) (v : Value) (t : Nat) : (a.put d v).tmps[t]? = if d = some t ∧ t < a.tmps.size then some v else a.tmps[t]? := by
  cases d with
  | none => simp [Act.put]
  | some e =>
    simp only [Act.put, Array.getElem?_setIfInBounds, Option.some.injEq]
    by_cases h : e = t
    · subst h
      by_cases h2 : e < a.tmps.size <;> simp [h2]
    · simp [h]

/-- Slots that nobody of the list writes stay. -/
theorem putsOn_other (ops : Array Oper) (vs : Nat → Value) (t : Nat) : ∀ (l : List Nat) (a : Act), (∀ j ∈ l, dstOf ops j ≠ some t) → (putsOn ops vs l a).tmps[t]? = a.tmps[t]?
  | [], _, _ => rfl
  | j :: js, a, h => by
    rw [putsOn, putsOn_other ops vs t js _ (fun k hk => h k (by simp [hk])), put_get, if_neg]
    intro hh
    exact h j (by simp) hh.1
/-- The slot of one of the list holds its value, where no other one writes it. -/
theorem putsOn_at (ops : Array Oper) (vs : Nat → Value) (t j : Nat) (hd : dstOf ops j = some t) (hone : ∀ k, dstOf ops k = some t → k = j) :
    ∀ (l : List Nat) (a : Act), t < a.tmps.size → j ∈ l → (putsOn ops vs l a).tmps[t]? = some (vs j)
  | [], _, _, h => absurd h (by simp)
  | k :: ks, a, hs, h => by
    by_cases hm : j ∈ ks
    · rw [putsOn]
      exact putsOn_at ops vs t j hd hone ks _ (by rw [put_size]; exact hs) hm
    · obtain rfl : j = k := by simpa [hm] using h
      rw [putsOn, putsOn_other ops vs t ks _ (fun i hi e => hm (by rw [← hone i e]; exact hi)), put_get, if_pos ⟨hd, hs⟩]

/-- How far a region has come: which operations are done, what they gave. -/
structure Sofar (ops : Array Oper) (G : Nat → Value → World → Prop) (R : World → World → Prop) (a : Act) (w0 : World) (vs : Nat → Value) (listed : Array Bool) (a' : Act) (w' : World) : Prop where
  size : listed.size = ops.size
  closed : ∀ i o, ops[i]? = some o → listed.getD i false = true → ∀ j ∈ depsOf o, listed.getD j false = true
  rel : R w0 w'
  known : ∀ j, j < ops.size → listed.getD j false = true → G j (vs j) w'
  len : a'.tmps.size = a.tmps.size
  defers : a'.defers = a.defers
  done : ∀ t j, t < a.tmps.size → dstOf ops j = some t → listed.getD j false = true → a'.tmps[t]? = some (vs j)
  rest : ∀ t, (∀ j, dstOf ops j = some t → listed.getD j false = false) → a'.tmps[t]? = a.tmps[t]?

theorem lt_of_dst {ops : Array Oper} {j t : Nat} (h : dstOf ops j = some t) : j < ops.size := by
  unfold dstOf at h
  rcases Nat.lt_or_ge j ops.size with h' | h'
  · exact h'
  · rw [Array.getElem?_eq_none h'] at h; cases h

theorem relyOk_at {ops : Array Oper} (h : relyOk ops = true) {i : Nat} {o : Oper} (hi : ops[i]? = some o) :
    plainOp o.op = true ∧ (∀ j ∈ depsOf o, j < i) ∧
    (∀ t ∈ o.looksAt ops, (∃ j ∈ depsOf o, dstOf ops j = some t) ∨ ∀ k, dstOf ops k = some t → ∃ p, ops[k]? = some p ∧ i ∈ depsOf p) ∧
    (∀ t k, o.dst = some t → dstOf ops k = some t → k = i) := by
  have hlt : i < ops.size := (Array.getElem?_eq_some_iff.1 hi).1
  have h1 := List.all_eq_true.1 h i (List.mem_range.2 hlt)
  simp only [hi, Bool.and_eq_true] at h1
  obtain ⟨⟨⟨h2, h3⟩, h4⟩, h5⟩ := h1
  refine ⟨h2, fun j hj => of_decide_eq_true (List.all_eq_true.1 h3 j hj), fun t ht => ?_, fun t k hd hk => ?_⟩
  · have := List.all_eq_true.1 h4 t ht
    rw [Bool.or_eq_true] at this
    rcases this with hA | hB
    · obtain ⟨j, hj, e⟩ := List.any_eq_true.1 hA
      exact .inl ⟨j, hj, by simpa using e⟩
    · refine .inr fun k hk => ?_
      have hkl := lt_of_dst hk
      have := List.all_eq_true.1 hB k (List.mem_range.2 hkl)
      obtain ⟨p, hp⟩ : ∃ p, ops[k]? = some p := ⟨_, Array.getElem?_eq_getElem hkl⟩
      rw [hk, hp] at this
      simp at this
      exact ⟨p, hp, this⟩
  · have hkl := lt_of_dst hk
    have := List.all_eq_true.1 h5 k (List.mem_range.2 hkl)
    rw [hk, hd] at this
    simpa using this

theorem ready_mem {ops : Array Oper} {listed : Array Bool} {i : Nat} (h : i ∈ Region.ready .any ops listed) :
    ∃ o, ops[i]? = some o ∧ listed.getD i true = false ∧ ∀ j ∈ depsOf o, listed.getD j false = true := by
  unfold Region.ready at h
  rw [List.mem_filter] at h
  obtain ⟨h1, h2⟩ := h
  have hlt := List.mem_range.1 h1
  obtain ⟨o, ho⟩ : ∃ o, ops[i]? = some o := ⟨_, Array.getElem?_eq_getElem hlt⟩
  rw [ho] at h2
  simp only [Option.map_some, Option.getD_some, Bool.and_eq_true, Bool.not_eq_true'] at h2
  refine ⟨o, ho, h2.1, fun j hj => ?_⟩
  unfold depsOf at hj
  obtain ⟨e, he, hj⟩ := List.mem_filterMap.1 hj
  split at hj
  · rename_i hb
    cases hj
    obtain ⟨n, hn, rfl⟩ := List.mem_iff_getElem.1 he
    have := Array.all_eq_true.1 h2.2 n (by simpa using hn)
    simp only [Array.getElem_toList] at hb
    rw [hb] at this
    simpa using this
  · cases hj
theorem ready_nil {ops : Array Oper} {listed : Array Bool} (hok : relyOk ops = true) (hsz : listed.size = ops.size) (h : Region.ready .any ops listed = []) : ∀ i, i < ops.size → listed.getD i false = true := by
  intro i
  induction i using Nat.strongRecOn with
  | _ i ih =>
    intro hi
    rcases hl : listed.getD i false with _ | _
    · exfalso
      obtain ⟨o, ho⟩ : ∃ o, ops[i]? = some o := ⟨_, Array.getElem?_eq_getElem hi⟩
      have hm : i ∈ Region.ready .any ops listed := by
        unfold Region.ready
        rw [List.mem_filter]
        refine ⟨List.mem_range.2 hi, ?_⟩
        rw [ho]
        simp only [Option.map_some, Option.getD_some, Bool.and_eq_true, Bool.not_eq_true']
        refine ⟨?_, ?_⟩
        · simp only [Array.getD_eq_getD_getElem?, Array.getElem?_eq_getElem (show i < listed.size by omega), Option.getD_some] at hl ⊢
          exact hl
        · rw [Array.all_eq_true]
          intro n hn
          rcases hb : Region.binds .any o.after[n] with _ | _
          · rfl
          · have hj : o.after[n].on ∈ depsOf o := List.mem_filterMap.2 ⟨o.after[n], by simp, by rw [if_pos hb]⟩
            have hlt := (relyOk_at hok ho).2.1 _ hj
            simpa using ih _ hlt (by omega)
      rw [h] at hm
      cases hm
    · rfl

/-- An operation without a guard does not look at the region's others. -/
def seen (ops : Array Oper) (o : Oper) : Array Oper := match o.guard with | none => #[] | some _ => ops
theorem wpList_seen {P : Program} {ops : Array Oper} {Q : Exit → Act → World → Prop} {o : Oper} {a : Act} {w : World} (h : wpList P (seen ops o) Q [o] a w) : wpList P ops Q [o] a w := by
  cases hg : o.guard with
  | some g => rwa [seen, hg] at h
  | none => simpa [wpList, Region.wanted, hg] using h
/-- What is to be shown of each operation. -/
def Obl (P : Program) (ops : Array Oper) (G : Nat → Value → World → Prop) (R : World → World → Prop) (a : Act) (w0 : World) : Nat → List Oper → Prop
  | _, [] => True
  | i, o :: rest => (∀ vs w', R w0 w' → Known G vs w' (depsOf o) → wpList P (seen ops o) (Post1 o a.defers (fun v w'' => R w' w'' ∧ G i v w'')) [o] (putsOn ops vs (depsOf o) a) w') ∧ Obl P ops G R a w0 (i + 1) rest

theorem Obl.at_ {P : Program} {ops : Array Oper} {G : Nat → Value → World → Prop} {R : World → World → Prop} {a : Act} {w0 : World} : ∀ {l : List Oper} {k : Nat}, Obl P ops G R a w0 k l → ∀ j o, l[j]? = some o →
    ∀ vs w', R w0 w' → Known G vs w' (depsOf o) → wpList P ops (Post1 o a.defers (fun v w'' => R w' w'' ∧ G (k + j) v w'')) [o] (putsOn ops vs (depsOf o) a) w'
  | [], _, _, j, o, h => by simp at h
  | o :: rest, k, h, j, o', ho => by
    cases j with
    | zero => simp only [List.getElem?_cons_zero, Option.some.injEq] at ho; subst ho; exact fun vs w' h1 h2 => wpList_seen (h.1 vs w' h1 h2)
    | succ j =>
      have := h.2.at_ j o' (by simpa using ho)
      rw [show k + 1 + j = k + (j + 1) from by omega] at this
      exact this

theorem getD_set (listed : Array Bool) (i j : Nat) (hi : i < listed.size) (d : Bool) : (listed.setIfInBounds i true).getD j d = if i = j then true else listed.getD j d := by
  simp only [Array.getD_eq_getD_getElem?, Array.getElem?_setIfInBounds]
  by_cases h : i = j
  · subst h; simp [hi]
  · simp [h]

theorem eval_same {a a' : Act} (x : Operand) (h : ∀ t, x = .tmp t → a'.tmps[t]? = a.tmps[t]?) : a'.eval x = a.eval x := by
  cases x with
  | tmp t => simp only [Act.eval, Array.getD_eq_getD_getElem?]; rw [h t rfl]
  | _ => rfl

theorem looks_operand {ops : Array Oper} {o : Oper} {t : Nat} (h : Operand.tmp t ∈ o.op.operands) : t ∈ o.looksAt ops :=
  List.mem_append_left _ (List.mem_filterMap.2 ⟨.tmp t, by simpa using h, rfl⟩)

theorem wanted_same {ops : Array Oper} {o : Oper} {a a' : Act} (h : ∀ t ∈ o.looksAt ops, a'.tmps[t]? = a.tmps[t]?) : Region.wanted o (yielded ops a'.tmps) = Region.wanted o (yielded ops a.tmps) := by
  unfold Region.wanted
  cases hg : o.guard with
  | none => rfl
  | some gw =>
    obtain ⟨g, want⟩ := gw
    have hy : yielded ops a'.tmps g = yielded ops a.tmps g := by
      unfold yielded
      cases ht : (ops[g]?).bind (·.dst) with
      | none => rfl
      | some t =>
        have := h t (by simp [Oper.looksAt, hg, ht])
        simp only [Option.bind_some, this]
    simp only [hy]

variable {P : Program} {ops : Array Oper} {Q : Exit → Act → World → Prop} {G : Nat → Value → World → Prop} {R : World → World → Prop} {a : Act} {w0 : World}

/-- All done: the frame is the one in the text's order. -/
theorem Sofar.frame {vs : Nat → Value} {listed : Array Bool} {a' : Act} {w' : World} (hok : relyOk ops = true) (h : Sofar ops G R a w0 vs listed a' w') (hall : ∀ i, i < ops.size → listed.getD i false = true) :
    a' = putsOn ops vs (List.range ops.size) a := by
  have ht : a'.tmps = (putsOn ops vs (List.range ops.size) a).tmps := by
    refine Array.ext_getElem? fun t => ?_
    by_cases hw : ∃ j, dstOf ops j = some t
    · obtain ⟨j, hj⟩ := hw
      have hjl := lt_of_dst hj
      by_cases hs : t < a.tmps.size
      · rw [h.done t j hs hj (hall j hjl), putsOn_at ops vs t j hj (fun k hk => ?_) _ _ hs (List.mem_range.2 hjl)]
        have hjl := lt_of_dst hj
        obtain ⟨o, ho⟩ : ∃ o, ops[j]? = some o := ⟨_, Array.getElem?_eq_getElem hjl⟩
        have hd : o.dst = some t := by unfold dstOf at hj; rw [ho] at hj; exact hj
        exact (relyOk_at hok ho).2.2.2 t k hd hk
      · rw [Array.getElem?_eq_none (by rw [h.len]; omega), Array.getElem?_eq_none (by rw [putsOn_size]; omega)]
    · have hw' : ∀ j, dstOf ops j ≠ some t := fun j e => hw ⟨j, e⟩
      rw [h.rest t (fun j e => absurd e (hw' j)), putsOn_other ops vs t _ _ (fun j _ => hw' j)]
  have hd : a'.defers = (putsOn ops vs (List.range ops.size) a).defers := by rw [h.defers, putsOn_defers]
  cases a'
  cases hq : putsOn ops vs (List.range ops.size) a
  rw [hq] at ht hd
  simp_all

theorem wpAny_rely (hok : relyOk ops = true) (htr : ∀ w1 w2 w3, R w1 w2 → R w2 w3 → R w1 w3) (hst : ∀ i v w1 w2, G i v w1 → R w1 w2 → G i v w2)
    (hdst : ∀ j t, dstOf ops j = some t → t < a.tmps.size)
    (hob : Obl P ops G R a w0 0 ops.toList)
    (hend : ∀ vs w', R w0 w' → Known G vs w' (List.range ops.size) → Q .normal (putsOn ops vs (List.range ops.size) a) w') :
    ∀ (fuel : Nat) (vs : Nat → Value) (listed : Array Bool) (a' : Act) (w' : World), (∀ m, m < fuel + 1 → True) → Sofar ops G R a w0 vs listed a' w' →
      ((List.range ops.size).filter fun i => !listed.getD i false).length ≤ fuel → wpAny P .any ops Q fuel listed a' w' := by
  have fin : ∀ (vs : Nat → Value) (listed : Array Bool) (a' : Act) (w' : World), Sofar ops G R a w0 vs listed a' w' → Region.ready .any ops listed = [] → Q .normal a' w' := by
    intro vs listed a' w' h hr
    have hall := ready_nil hok h.size hr
    rw [h.frame hok hall]
    exact hend vs w' h.rel (Known.mem fun j hj => h.known j (List.mem_range.1 hj) (hall j (List.mem_range.1 hj)))
  intro fuel
  induction fuel with
  | zero =>
    intro vs listed a' w' _ h hc
    have hr : Region.ready .any ops listed = [] := by
      rw [List.eq_nil_iff_forall_not_mem]
      intro i hi
      obtain ⟨o, ho, hl, _⟩ := ready_mem hi
      have hlt : i < ops.size := (Array.getElem?_eq_some_iff.1 ho).1
      have : i ∈ (List.range ops.size).filter fun i => !listed.getD i false := by
        rw [List.mem_filter]
        refine ⟨List.mem_range.2 hlt, ?_⟩
        simp only [Array.getD_eq_getD_getElem?, Array.getElem?_eq_getElem (show i < listed.size by rw [h.size]; exact hlt), Option.getD_some] at hl ⊢
        simp [hl]
      rw [List.eq_nil_of_length_eq_zero (Nat.le_zero.1 hc)] at this
      cases this
    exact ⟨hr, fin vs listed a' w' h hr⟩
  | succ fuel ih =>
    intro vs listed a' w' _ h hc
    refine ⟨fin vs listed a' w' h, fun i hi => ?_⟩
    obtain ⟨o, ho, hl, hdeps⟩ := ready_mem hi
    have hlt : i < ops.size := (Array.getElem?_eq_some_iff.1 ho).1
    have hl' : listed.getD i false = false := by
      simp only [Array.getD_eq_getD_getElem?, Array.getElem?_eq_getElem (show i < listed.size by rw [h.size]; exact hlt), Option.getD_some] at hl ⊢
      exact hl
    obtain ⟨hpl, hdl, hlook, hone⟩ := relyOk_at hok ho
    have hk : Known G vs w' (depsOf o) := Known.mem fun j hj => h.known j (Nat.lt_trans (hdl j hj) hlt) (hdeps j hj)
    have hob' := hob.at_ i o (by rw [Array.getElem?_toList]; exact ho) vs w' h.rel hk
    rw [Nat.zero_add] at hob'
    -- where the operation looks, the frames agree
    have hsame : ∀ t ∈ o.looksAt ops, a'.tmps[t]? = (putsOn ops vs (depsOf o) a).tmps[t]? := by
      intro t ht
      rcases hlook t ht with ⟨j, hj, hd⟩ | hbehind
      · have hs := hdst j t hd
        have hjl := lt_of_dst hd
        obtain ⟨oj, hoj⟩ : ∃ oj, ops[j]? = some oj := ⟨_, Array.getElem?_eq_getElem hjl⟩
        have hdj : oj.dst = some t := by have := hd; unfold dstOf at this; rw [hoj] at this; exact this
        rw [h.done t j hs hd (hdeps j hj), putsOn_at ops vs t j hd (fun k hk => (relyOk_at hok hoj).2.2.2 t k hdj hk) _ _ hs hj]
      · rw [h.rest t (fun k hk => ?_), putsOn_other ops vs t _ _ (fun k hk e => ?_)]
        · obtain ⟨p, hp, hip⟩ := hbehind k e
          have := (relyOk_at hok hp).2.1 i hip
          have := hdl k hk
          omega
        · rcases hkl : listed.getD k false with _ | _
          · rfl
          · obtain ⟨p, hp, hip⟩ := hbehind k hk
            have := h.closed k p hp hkl i hip
            rw [hl'] at this
            cases this
    rw [← putsOn_defers ops vs (depsOf o) a] at hob'
    refine one_op ho hob' (fun d hd => by rw [putsOn_size]; exact hdst i d (by unfold dstOf; rw [ho]; exact hd)) hpl
      (fun x hx => eval_same x fun t e => hsame t (looks_operand (by rw [← e]; exact hx))) (wanted_same hsame) ?_
    rintro v w'' ⟨hR, hG⟩
    have hset : ∀ j d, (listed.setIfInBounds i true).getD j d = if i = j then true else listed.getD j d := fun j d => getD_set listed i j (by rw [h.size]; exact hlt) d
    have hdo : dstOf ops i = o.dst := by unfold dstOf; rw [ho]; rfl
    refine ih (fun j => if j = i then (match o.dst with | some _ => v | none => undef) else vs j) _ _ _ (fun _ _ => trivial) ?_ ?_
    · refine ⟨by simp [h.size], ?_, htr _ _ _ h.rel hR, ?_, by rw [put_size]; exact h.len, by rw [put_defers]; exact h.defers, ?_, ?_⟩
      · intro k p hp hkl j hj
        rw [hset] at hkl ⊢
        by_cases hij : i = j
        · rw [if_pos hij]
        · rw [if_neg hij]
          by_cases hik : i = k
          · subst hik
            rw [ho] at hp
            cases hp
            exact hdeps j hj
          · rw [if_neg hik] at hkl
            exact h.closed k p hp hkl j hj
      · intro j hjl hl2
        by_cases hij : j = i
        · subst hij
          simp only [if_true]
          exact hG
        · simp only [if_neg hij]
          rw [hset, if_neg (Ne.symm hij)] at hl2
          exact hst _ _ _ _ (h.known j hjl hl2) hR
      · intro t j hs hd hl2
        rw [put_get]
        by_cases hij : j = i
        · subst hij
          rw [hdo] at hd
          rw [if_pos ⟨hd, by rw [h.len]; exact hs⟩]
          simp [hd]
        · rw [hset, if_neg (Ne.symm hij)] at hl2
          rw [if_neg, if_neg hij, h.done t j hs hd hl2]
          rintro ⟨hd2, _⟩
          exact hij (hone t j hd2 hd)
      · intro t hn
        rw [put_get, if_neg]
        · refine h.rest t fun j hd => ?_
          have := hn j hd
          rw [hset] at this
          split at this
          · cases this
          · exact this
        · rintro ⟨hd2, _⟩
          have := hn i (by rw [hdo]; exact hd2)
          rw [hset, if_pos rfl] at this
          cases this
    · have hlt2 : ((List.range ops.size).filter fun j => !(listed.setIfInBounds i true).getD j false).length < ((List.range ops.size).filter fun j => !listed.getD j false).length := by
        have e : ((List.range ops.size).filter fun j => !(listed.setIfInBounds i true).getD j false) = (((List.range ops.size).filter fun j => !listed.getD j false).filter fun j => !(decide (i = j))) := by
          rw [List.filter_filter]
          refine List.filter_congr fun j _ => ?_
          rw [hset]
          by_cases hij : i = j <;> simp [hij]
        rw [e]
        refine List.length_filter_lt_length_iff_exists.2 ⟨i, ?_, by simp⟩
        rw [List.mem_filter]
        exact ⟨List.mem_range.2 hlt, by simp [hl']⟩
      omega

def dstOk (ops : Array Oper) (n : Nat) : Bool := ops.all fun o => match o.dst with | some d => decide (d < n) | none => true
theorem dstOk_at {n : Nat} (h : dstOk ops n = true) : ∀ j t, dstOf ops j = some t → t < n := by
  intro j t hd
  have hj := lt_of_dst hd
  have := Array.all_eq_true.1 h j hj
  unfold dstOf at hd
  rw [Array.getElem?_eq_getElem hj] at hd
  simp only [Option.bind_some] at hd
  rw [hd] at this
  exact of_decide_eq_true this

/-- THE LAW. -/
theorem wp_region_rely {id : Nat} {l : List Oper} {w : World} (hm : P.follows .mixedOrders = true) (hok : relyOk l.toArray = true)
    (G : Nat → Value → World → Prop) (R : World → World → Prop) (hrefl : R w.drew w.drew) (htr : ∀ w1 w2 w3, R w1 w2 → R w2 w3 → R w1 w3) (hst : ∀ i v w1 w2, G i v w1 → R w1 w2 → G i v w2)
    {n : Nat} (hdst' : dstOk l.toArray n = true) (hn : a.tmps.size = n)
    (hob : Obl P l.toArray G R a w.drew 0 l)
    (hend : ∀ vs w', R w.drew w' → Known G vs w' (List.range l.length) → Q .normal (putsOn l.toArray vs (List.range l.length) a) w') : (Code.region id l.toArray true).wp P Q a w := by
  have hdst : ∀ j t, dstOf l.toArray j = some t → t < a.tmps.size := by rw [hn]; exact dstOk_at hdst'
  refine wp_region_any hm ?_
  refine wpAny_rely (w0 := w.drew) hok htr hst hdst (by simpa using hob) (by simpa using hend) _ (fun _ => undef) _ _ _ (fun _ _ => trivial) ?_ ?_
  · have h0 : ∀ i, (Array.replicate l.toArray.size false).getD i false = false := by
      intro i
      simp only [Array.getD_eq_getD_getElem?, Array.getElem?_replicate]
      split <;> rfl
    exact ⟨by simp, fun i o _ h => (by rw [h0] at h; cases h), hrefl, fun j _ h => (by rw [h0] at h; cases h), rfl, rfl, fun t j _ _ h => (by rw [h0] at h; cases h), fun _ _ => rfl⟩
  · refine Nat.le_trans (List.length_filter_le _ _) (by simp)
end
end Go.Proofs.Ytjampaggidelgaa
