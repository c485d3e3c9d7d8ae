/- The law of Rely.lean, for a region whose last operations stand in one forced order behind all the others. No program in sight. -/
import Derived.Test.YtjampaggidelgaaRely
import Derived.StillTail
namespace Go.Proofs.Ytjampaggidelgaa

section
variable {P : Program} {ops : Array Oper}

def headMask (n m : Nat) : Array Bool := (List.replicate n true ++ List.replicate (m - n) false).toArray
/-- From operation n on, all stand in one line, behind all others. -/
def tailOk (ops : Array Oper) (n : Nat) : Bool :=
  decide (n < ops.size) && Region.sinkB .any ops n && Region.chainB .any ops n && Region.seqB .any ops (ops.size - n) n (headMask n ops.size)

variable {Q : Exit → Act → World → Prop} {G : Nat → Value → World → Prop} {R : World → World → Prop} {a : Act} {w0 : World}

theorem Sofar.frameHead {vs : Nat → Value} {listed : Array Bool} {a' : Act} {w' : World} {n : Nat} (hok : relyOk ops = true) (h : Sofar ops G R a w0 vs listed a' w')
    (hin : ∀ i, i < n → listed.getD i false = true) (hout : ∀ i, n ≤ i → listed.getD i false = false) :
    a' = putsOn ops vs (List.range n) a := by
  have ht : a'.tmps = (putsOn ops vs (List.range n) a).tmps := by
    refine Array.ext_getElem? fun t => ?_
    by_cases hw : ∃ j, dstOf ops j = some t
    · obtain ⟨j, hj⟩ := hw
      have hjl := lt_of_dst hj
      obtain ⟨o, ho⟩ : ∃ o, ops[j]? = some o := ⟨_, Array.getElem?_eq_getElem hjl⟩
      have hd : o.dst = some t := by unfold dstOf at hj; rw [ho] at hj; exact hj
      have hone : ∀ k, dstOf ops k = some t → k = j := fun k hk => (relyOk_at hok ho).2.2.2 t k hd hk
      by_cases hs : t < a.tmps.size
      · by_cases hjn : j < n
        · rw [h.done t j hs hj (hin j hjn), putsOn_at ops vs t j hj hone _ _ hs (List.mem_range.2 hjn)]
        · rw [h.rest t (fun k hk => by rw [hone k hk]; exact hout j (by omega)), putsOn_other ops vs t _ _ (fun k hk e => by
            have := hone k e
            have := List.mem_range.1 hk
            omega)]
      · rw [Array.getElem?_eq_none (by rw [h.len]; omega), Array.getElem?_eq_none (by rw [putsOn_size]; omega)]
    · have hw' : ∀ j, dstOf ops j ≠ some t := fun j e => hw ⟨j, e⟩
      rw [h.rest t (fun j e => absurd e (hw' j)), putsOn_other ops vs t _ _ (fun j _ => hw' j)]
  have hd : a'.defers = (putsOn ops vs (List.range n) a).defers := by rw [h.defers, putsOn_defers]
  cases a'
  cases hq : putsOn ops vs (List.range n) a
  rw [hq] at ht hd
  simp_all

def left (ops : Array Oper) (listed : Array Bool) : Nat := ((List.range ops.size).filter fun i => !listed.getD i false).length

theorem left_head {n : Nat} {listed : Array Bool} (hn : n ≤ ops.size) (hin : ∀ i, i < n → listed.getD i false = true) (hout : ∀ i, n ≤ i → listed.getD i false = false) : left ops listed = ops.size - n := by
  unfold left
  have e : ops.size = n + (ops.size - n) := by omega
  rw [e, List.range_add, List.filter_append, List.filter_eq_nil_iff.2 (by
    intro i hi
    simp [List.mem_range] at hi
    simp only [hin i hi]
    decide), List.filter_eq_self.2 (by
    intro i hi
    obtain ⟨j, _, rfl⟩ := List.mem_map.1 hi
    simp only [hout (n + j) (by omega)]
    rfl)]
  simp
theorem left_set {listed : Array Bool} {i : Nat} (hi : i < ops.size) (hs : i < listed.size) (hl : listed.getD i false = false) : left ops (listed.setIfInBounds i true) + 1 = left ops listed := by
  have hset : ∀ j d, (listed.setIfInBounds i true).getD j d = if i = j then true else listed.getD j d := fun j d => getD_set listed i j hs d
  unfold left
  have key : ∀ m, i < m → ((List.range m).filter fun j => !(listed.setIfInBounds i true).getD j false).length + 1 = ((List.range m).filter fun j => !listed.getD j false).length := by
    intro m hm
    have e1 : m = i + (1 + (m - i - 1)) := by omega
    rw [e1, List.range_add, List.range_add, List.map_append, List.filter_append, List.filter_append, List.filter_append, List.filter_append]
    have hlo : (List.range i).filter (fun j => !(listed.setIfInBounds i true).getD j false) = (List.range i).filter (fun j => !listed.getD j false) := by
      refine List.filter_congr fun j hj => ?_
      rw [hset, if_neg (by have := List.mem_range.1 hj; omega)]
    have hhi : (((List.range (m - i - 1)).map (1 + ·)).map (i + ·)).filter (fun j => !(listed.setIfInBounds i true).getD j false) = (((List.range (m - i - 1)).map (1 + ·)).map (i + ·)).filter (fun j => !listed.getD j false) := by
      refine List.filter_congr fun j hj => ?_
      obtain ⟨k, hk, rfl⟩ := List.mem_map.1 hj
      obtain ⟨k', _, rfl⟩ := List.mem_map.1 hk
      rw [hset, if_neg (by omega)]
    have hme : ((List.range 1).map (i + ·)) = [i] := by simp
    rw [hlo, hhi, hme]
    simp only [List.filter_cons, List.filter_nil, hset, if_true, hl, List.length_append]
    simp
    omega
  exact key _ hi

theorem wpAny_rely_tail {l : List Oper} {n : Nat} (hl : l = ops.toList) (hok : relyOk ops = true) (htl : tailOk ops n = true) (htr : ∀ w1 w2 w3, R w1 w2 → R w2 w3 → R w1 w3) (hst : ∀ i v w1 w2, G i v w1 → R w1 w2 → G i v w2)
    (hdst : ∀ j t, dstOf ops j = some t → t < a.tmps.size)
    (hob : Obl P ops G R a w0 0 (l.take n))
    (hend : ∀ vs w', R w0 w' → Known G vs w' (List.range n) → wpList P ops Q (l.drop n) (putsOn ops vs (List.range n) a) w') :
    ∀ (fuel : Nat) (vs : Nat → Value) (listed : Array Bool) (a' : Act) (w' : World), Sofar ops G R a w0 vs listed a' w' → (∀ i, n ≤ i → listed.getD i false = false) →
      left ops listed = fuel → wpAny P .any ops Q fuel listed a' w' := by
  subst hl
  unfold tailOk at htl
  simp only [Bool.and_eq_true, decide_eq_true_eq] at htl
  obtain ⟨⟨⟨hn, hsink⟩, hchain⟩, hseq⟩ := htl
  have fin : ∀ (fuel : Nat) (vs : Nat → Value) (listed : Array Bool) (a' : Act) (w' : World), Sofar ops G R a w0 vs listed a' w' → (∀ i, n ≤ i → listed.getD i false = false) → left ops listed = fuel →
      (∀ i, i < n → listed.getD i false = true) → wpAny P .any ops Q fuel listed a' w' := by
    intro fuel vs listed a' w' h hout hf hin
    have hfe := left_head (ops := ops) (Nat.le_of_lt hn) hin hout
    have hm : listed = headMask n ops.size := by
      refine Array.ext_getElem? fun j => ?_
      have hsz := h.size
      by_cases hj : j < ops.size
      · have hmem : (headMask n ops.size)[j]? = some (decide (j < n)) := by
          unfold headMask
          simp only [List.getElem?_toArray]
          by_cases hjn : j < n
          · rw [List.getElem?_append_left (by simpa using hjn), List.getElem?_replicate_of_lt hjn, decide_eq_true hjn]
          · rw [List.getElem?_append_right (by simp; omega), List.length_replicate, List.getElem?_replicate_of_lt (by omega), decide_eq_false hjn]
        rw [hmem, Array.getElem?_eq_getElem (by omega)]
        have hg : listed.getD j false = listed[j]'(by omega) := by simp [Array.getD_eq_getD_getElem?, Array.getElem?_eq_getElem (show j < listed.size by omega)]
        by_cases hjn : j < n
        · rw [← hg, hin j hjn, decide_eq_true hjn]
        · rw [← hg, hout j (by omega), decide_eq_false hjn]
      · rw [Array.getElem?_eq_none (by omega), Array.getElem?_eq_none (by
          unfold headMask
          simp
          omega)]
    have hk : Known G vs w' (List.range n) := Known.mem fun j hj => h.known j (by have := List.mem_range.1 hj; omega) (hin j (List.mem_range.1 hj))
    rw [h.frameHead hok hin hout]
    have hdl : (ops.toList.drop n).length = ops.size - n := by simp
    have := wpAny_of_seq (P := P) (md := .any) (Q' := Q) (ops.toList.drop n) n listed (putsOn ops vs (List.range n) a) w' (fun j => by simp [List.getElem?_drop]) (by rw [hdl, hm]; exact hseq) (hend vs w' h.rel hk)
    rw [hdl] at this
    rw [← hf, hfe]
    exact this
  intro fuel
  induction fuel with
  | zero =>
    intro vs listed a' w' h hout hf
    by_cases hin : ∀ i, i < n → listed.getD i false = true
    · exact fin 0 vs listed a' w' h hout hf hin
    · exfalso
      have hr : Region.ready .any ops listed = [] := by
        rw [List.eq_nil_iff_forall_not_mem]
        intro i hi
        obtain ⟨o, ho, hl, _⟩ := ready_mem hi
        have hlt : i < ops.size := (Array.getElem?_eq_some_iff.1 ho).1
        have : i ∈ (List.range ops.size).filter fun i => !listed.getD i false := by
          rw [List.mem_filter]
          refine ⟨List.mem_range.2 hlt, ?_⟩
          simp only [Array.getD_eq_getD_getElem?, Array.getElem?_eq_getElem (show i < listed.size by rw [h.size]; exact hlt), Option.getD_some] at hl ⊢
          simp [hl]
        rw [List.eq_nil_of_length_eq_zero hf] at this
        cases this
      have := ready_nil hok h.size hr n hn
      rw [hout n (Nat.le_refl _)] at this
      cases this
  | succ fuel ih =>
    intro vs listed a' w' h hout hf
    by_cases hin : ∀ i, i < n → listed.getD i false = true
    · exact fin _ vs listed a' w' h hout hf hin
    · have hin' : ∃ i, i < n ∧ listed.getD i false = false := by
        refine Classical.byContradiction fun hc => hin fun i hi => ?_
        rcases hh : listed.getD i false with _ | _
        · exact absurd ⟨i, hi, hh⟩ hc
        · rfl
      obtain ⟨i0, hi0, hu0⟩ := hin'
      have inv : HeadInv .any ops n listed := ⟨h.size, fun j oj hj hl e he hb => h.closed j oj hj hl e.on (List.mem_filterMap.2 ⟨e, by simpa using he, by rw [if_pos hb]⟩), fun t ht htl => getD_in (by rw [h.size]; exact htl) (hout t ht)⟩
      have hwait := tail_waits hsink hchain hn inv _ i0 rfl hi0 (getD_in (by rw [h.size]; omega) hu0)
      refine ⟨fun hr => absurd (ready_nil hok h.size hr n hn) (by rw [hout n (Nat.le_refl _)]; decide), fun i hi => ?_⟩
      have hin2 : i < n := by
        rcases Nat.lt_or_ge i n with h' | h'
        · exact h'
        · exact absurd hi (hwait i h')
      obtain ⟨o, ho, hl, hdeps⟩ := ready_mem hi
      have hlt : i < ops.size := (Array.getElem?_eq_some_iff.1 ho).1
      have hl' : listed.getD i false = false := getD_both hl
      obtain ⟨hpl, hdl, hlook, hone⟩ := relyOk_at hok ho
      have hk : Known G vs w' (depsOf o) := Known.mem fun j hj => h.known j (Nat.lt_trans (hdl j hj) hlt) (hdeps j hj)
      have hob' := hob.at_ i o (by rw [List.getElem?_take_of_lt hin2, Array.getElem?_toList]; exact ho) vs w' h.rel hk
      rw [Nat.zero_add] at hob'
      have hsame : ∀ t ∈ o.looksAt ops, a'.tmps[t]? = (putsOn ops vs (depsOf o) a).tmps[t]? := by
        intro t ht
        rcases hlook t ht with ⟨j, hj, hd⟩ | hbehind
        · have hs := hdst j t hd
          have hjl := lt_of_dst hd
          obtain ⟨oj, hoj⟩ : ∃ oj, ops[j]? = some oj := ⟨_, Array.getElem?_eq_getElem hjl⟩
          have hdj : oj.dst = some t := by have := hd; unfold dstOf at this; rw [hoj] at this; exact this
          rw [h.done t j hs hd (hdeps j hj), putsOn_at ops vs t j hd (fun k hk => (relyOk_at hok hoj).2.2.2 t k hdj hk) _ _ hs hj]
        · rw [h.rest t (fun k hk => ?_), putsOn_other ops vs t _ _ (fun k hk e => ?_)]
          · obtain ⟨p, hp, hip⟩ := hbehind k e
            have := (relyOk_at hok hp).2.1 i hip
            have := hdl k hk
            omega
          · rcases hkl : listed.getD k false with _ | _
            · rfl
            · obtain ⟨p, hp, hip⟩ := hbehind k hk
              have := h.closed k p hp hkl i hip
              rw [hl'] at this
              cases this
      rw [← putsOn_defers ops vs (depsOf o) a] at hob'
      refine one_op ho hob' (fun d hd => by rw [putsOn_size]; exact hdst i d (by unfold dstOf; rw [ho]; exact hd)) hpl
        (fun x hx => eval_same x fun t e => hsame t (looks_operand (by rw [← e]; exact hx))) (wanted_same hsame) ?_
      rintro v w'' ⟨hR, hG⟩
      have hset : ∀ j d, (listed.setIfInBounds i true).getD j d = if i = j then true else listed.getD j d := fun j d => getD_set listed i j (by rw [h.size]; exact hlt) d
      have hdo : dstOf ops i = o.dst := by unfold dstOf; rw [ho]; rfl
      refine ih (fun j => if j = i then (match o.dst with | some _ => v | none => undef) else vs j) _ _ _ ?_ ?_ ?_
      · refine ⟨by simp [h.size], ?_, htr _ _ _ h.rel hR, ?_, by rw [put_size]; exact h.len, by rw [put_defers]; exact h.defers, ?_, ?_⟩
        · intro k p hp hkl j hj
          rw [hset] at hkl ⊢
          by_cases hij : i = j
          · rw [if_pos hij]
          · rw [if_neg hij]
            by_cases hik : i = k
            · subst hik
              rw [ho] at hp
              cases hp
              exact hdeps j hj
            · rw [if_neg hik] at hkl
              exact h.closed k p hp hkl j hj
        · intro j hjl hl2
          by_cases hij : j = i
          · subst hij
            simp only [if_true]
            exact hG
          · simp only [if_neg hij]
            rw [hset, if_neg (Ne.symm hij)] at hl2
            exact hst _ _ _ _ (h.known j hjl hl2) hR
        · intro t j hs hd hl2
          rw [put_get]
          by_cases hij : j = i
          · subst hij
            rw [hdo] at hd
            rw [if_pos ⟨hd, by rw [h.len]; exact hs⟩]
            simp [hd]
          · rw [hset, if_neg (Ne.symm hij)] at hl2
            rw [if_neg, if_neg hij, h.done t j hs hd hl2]
            rintro ⟨hd2, _⟩
            exact hij (hone t j hd2 hd)
        · intro t hn
          rw [put_get, if_neg]
          · refine h.rest t fun j hd => ?_
            have := hn j hd
            rw [hset] at this
            split at this
            · cases this
            · exact this
          · rintro ⟨hd2, _⟩
            have := hn i (by rw [hdo]; exact hd2)
            rw [hset, if_pos rfl] at this
            cases this
      · intro j hj
        rw [hset, if_neg (by omega)]
        exact hout j hj
      · have := left_set (ops := ops) hlt (by rw [h.size]; exact hlt) hl'
        omega

/-- THE LAW: n operations in whatever order, then the others in the text's order. -/
theorem wp_region_rely_tail {id : Nat} {l : List Oper} {w : World} (k : Nat) (hm : P.follows .mixedOrders = true) (hok : relyOk l.toArray = true) (htl : tailOk l.toArray k = true)
    (G : Nat → Value → World → Prop) (R : World → World → Prop) (hrefl : R w.drew w.drew) (htr : ∀ w1 w2 w3, R w1 w2 → R w2 w3 → R w1 w3) (hst : ∀ i v w1 w2, G i v w1 → R w1 w2 → G i v w2)
    {n : Nat} (hdst' : dstOk l.toArray n = true) (hn : a.tmps.size = n)
    (hob : Obl P l.toArray G R a w.drew 0 (l.take k))
    (hend : ∀ vs w', R w.drew w' → Known G vs w' (List.range k) → wpList P l.toArray Q (l.drop k) (putsOn l.toArray vs (List.range k) a) w') : (Code.region id l.toArray true).wp P Q a w := by
  have hdst : ∀ j t, dstOf l.toArray j = some t → t < a.tmps.size := by rw [hn]; exact dstOk_at hdst'
  have h0 : ∀ i, (Array.replicate l.toArray.size false).getD i false = false := by
    intro i
    simp only [Array.getD_eq_getD_getElem?, Array.getElem?_replicate]
    split <;> rfl
  refine wp_region_any hm ?_
  refine wpAny_rely_tail (l := l) (n := k) (w0 := w.drew) (by simp) hok htl htr hst hdst hob hend _ (fun _ => undef) _ _ _ ?_ (fun i _ => h0 i) ?_
  · exact ⟨by simp, fun i o _ h => (by rw [h0] at h; cases h), hrefl, fun j _ h => (by rw [h0] at h; cases h), rfl, rfl, fun t j _ _ h => (by rw [h0] at h; cases h), fun _ _ => rfl⟩
  · have := left_head (ops := l.toArray) (n := 0) (listed := Array.replicate l.toArray.size false) (Nat.zero_le _) (fun i hi => absurd hi (by omega)) (fun i _ => h0 i)
    simpa using this
end
end Go.Proofs.Ytjampaggidelgaa
